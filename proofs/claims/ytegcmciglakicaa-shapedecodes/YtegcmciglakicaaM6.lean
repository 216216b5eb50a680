/-
  What is proved: whatever byte list, string and number of two bytes it is handed, sleuthlaw20.ShapeDecodes answers true and leaves them as they were (Rows.ShapeDecodesSaid). Conditions: none beyond the row's own.
-/
import Derived.Test.YtegcmciglakicaaM5
import Derived.Test.YtegcmciglakicaaM2
import Derived.ChangeMaps5
namespace Go.Proofs.Ytegcmciglakicaa
open Go.RowKit Go.Exe
set_option linter.unusedVariables false
set_option linter.unusedSimpArgs false
set_option maxRecDepth 100000

/-! ### a number's bytes lead back to it -/
def nval (l : List UInt8) : Nat := l.foldl (fun a b => a * 256 + b.toNat) 0
theorem lt_nsize : ∀ (k m : Nat), m < 256 ^ k → m < 256 ^ nsize m
  | 0, m, h => by simp at h; subst h; rw [nsize_0]; decide
  | k + 1, m, h => by
    by_cases h0 : m = 0
    · subst h0; rw [nsize_0]; decide
    · rw [nsize_s (by omega), Nat.add_comm, Nat.pow_succ]
      have := lt_nsize k (m / 256) (by rw [Nat.pow_succ] at h; omega)
      omega
def nbytes (m : Nat) : List UInt8 := (List.range (nsize m)).map fun j => UInt8.ofNat (nbyte m (nsize m - 1 - j) false)
theorem numB_pos {n : Int} (h : 0 ≤ n) : numB n = UInt8.ofNat (128 + nsize n.natAbs) :: nbytes n.natAbs := by
  have : decide (n < 0) = false := by simp; omega
  simp only [numB, this, nhead, nbytes]
  rfl
theorem nbytes_len (m : Nat) : (nbytes m).length = nsize m := by simp [nbytes]
theorem nval_take {m : Nat} (h : m < 18446744073709551616) : ∀ i, i ≤ nsize m → nval ((nbytes m).take i) = m / 256 ^ (nsize m - i)
  | 0, _ => by
    simp only [List.take_zero, nval, List.foldl_nil, Nat.sub_zero]
    rw [Nat.div_eq_of_lt (lt_nsize 8 m (by simpa using h))]
  | i + 1, hi => by
    have ih := nval_take h i (by omega)
    have hg : (nbytes m)[i]? = some (UInt8.ofNat (nbyte m (nsize m - 1 - i) false)) := by
      simp [nbytes, List.getElem?_range (show i < nsize m by omega)]
    rw [List.take_add_one, hg]
    simp only [Option.toList_some, nval, List.foldl_append, List.foldl_cons, List.foldl_nil]
    simp only [nval] at ih
    rw [ih, UInt8.toNat_ofNat_of_lt' (by have := nbyte_lt m (nsize m - 1 - i) false; simpa [UInt8.size] using this)]
    simp only [nbyte, Bool.false_eq_true, if_false]
    have e1 : nsize m - i = (nsize m - 1 - i) + 1 := by omega
    have e2 : nsize m - (i + 1) = nsize m - 1 - i := by omega
    rw [e1, e2, Nat.pow_succ, ← Nat.div_div_eq_div_mul]
    omega
theorem nval_nbytes {m : Nat} (h : m < 18446744073709551616) : nval (nbytes m) = m := by
  have := nval_take h (nsize m) (Nat.le_refl _)
  rw [← nbytes_len, List.take_length] at this
  simpa [nbytes_len] using this
theorem numB_app {a b : Int} (ha : 0 ≤ a) (ha2 : a < 9223372036854775808) (hb : 0 ≤ b) (hb2 : b < 9223372036854775808) {r s : List UInt8} (h : numB a ++ r = numB b ++ s) : a = b ∧ r = s := by
  rw [numB_pos ha, numB_pos hb] at h
  simp only [List.cons_append, List.cons.injEq] at h
  obtain ⟨h1, h2⟩ := h
  have s1 := nsize_le 8 a.natAbs (by omega)
  have s2 := nsize_le 8 b.natAbs (by omega)
  have h3 : nsize a.natAbs = nsize b.natAbs := by
    have := congrArg UInt8.toNat h1
    rw [UInt8.toNat_ofNat_of_lt' (by simp [UInt8.size]; omega), UInt8.toNat_ofNat_of_lt' (by simp [UInt8.size]; omega)] at this
    omega
  obtain ⟨h4, h5⟩ := List.append_inj h2 (by rw [nbytes_len, nbytes_len, h3])
  have h6 := congrArg nval h4
  rw [nval_nbytes (by omega), nval_nbytes (by omega)] at h6
  exact ⟨by omega, h5⟩
theorem textB_app {a b : ByteArray} (ha : a.size < 9223372036854775808) (hb : b.size < 9223372036854775808) {r s : List UInt8} (h : textB a ++ r = textB b ++ s) : a = b ∧ r = s := by
  simp only [textB, List.append_assoc] at h
  obtain ⟨h1, h2⟩ := numB_app (by omega) (by omega) (by omega) (by omega) h
  have h3 : a.size = b.size := by omega
  obtain ⟨h4, h5⟩ := List.append_inj h2 (by simpa using h3)
  refine ⟨?_, h5⟩
  cases a with
  | mk a =>
    cases b with
    | mk b => simp at h4; rw [h4]
/-- A path of texts that fit. -/
def okP (p : List Nm) : Prop := ∀ n ∈ p, n.1.size < 9223372036854775808 ∧ n.2.size < 9223372036854775808
theorem textB_pos (b : ByteArray) : textB b ≠ [] := by simp [textB, numB]
theorem pathB_inj : ∀ {p q : List Nm}, okP p → okP q → pathB p = pathB q → p = q
  | [], [], _, _, _ => rfl
  | [], n :: r, _, _, h => by simp [pathB, nameB, textB_pos] at h
  | n :: r, [], _, _, h => by simp [pathB, nameB, textB_pos] at h
  | a :: p, b :: q, h1, h2, h => by
    simp only [pathB, nameB, List.append_assoc] at h
    have k1 := h1 a (by simp)
    have k2 := h2 b (by simp)
    obtain ⟨e1, h⟩ := textB_app k1.1 k2.1 h
    obtain ⟨e2, h⟩ := textB_app k1.2 k2.2 h
    rw [pathB_inj (fun n hn => h1 n (by simp [hn])) (fun n hn => h2 n (by simp [hn])) h, Prod.ext e1 e2]

/-! ### deltas, told by the number of each path -/
def dval (q : List Nm) : List Dl → Int
  | [] => 0
  | d :: r => (if d.1 = q then d.2 else 0) + dval q r
theorem dval_none {q : List Nm} : ∀ {l : List Dl}, (∀ d ∈ l, d.1 ≠ q) → dval q l = 0
  | [], _ => rfl
  | d :: r, h => by
    have := dval_none (q := q) (l := r) fun x hx => h x (by simp [hx])
    simp [dval, h d (by simp), this]
theorem dval_mem {l : List Dl} (hn : (l.map (·.1)).Nodup) {d : Dl} (hd : d ∈ l) : dval d.1 l = d.2 := by
  induction l with
  | nil => simp at hd
  | cons x r ih =>
    simp only [List.map_cons, List.nodup_cons] at hn
    rcases List.mem_cons.1 hd with rfl | hd
    · have : dval d.1 r = 0 := dval_none fun y hy e => hn.1 (List.mem_map.2 ⟨y, hy, e⟩)
      simp [dval, this]
    · have hne : x.1 ≠ d.1 := fun e => hn.1 (List.mem_map.2 ⟨d, hd, e.symm⟩)
      simp [dval, hne, ih hn.2 hd]
theorem mem_dval {l : List Dl} {q : List Nm} (h : dval q l ≠ 0) (hn : (l.map (·.1)).Nodup) : (q, dval q l) ∈ l := by
  by_cases hx : ∃ d ∈ l, d.1 = q
  · obtain ⟨d, hd, rfl⟩ := hx
    rw [dval_mem hn hd]
    exact hd
  · exact absurd (dval_none fun d hd e => hx ⟨d, hd, e⟩) h
theorem dval_filter (q : List Nm) : ∀ l : List Dl, dval q (l.filter fun d => d.2 != 0) = dval q l
  | [] => rfl
  | d :: r => by
    have ih := dval_filter q r
    by_cases h : d.2 = 0
    · simp [List.filter_cons, h, dval, ih]
    · simp [List.filter_cons, h, dval, ih]
theorem filter_keys {l : List Dl} (hn : (l.map (·.1)).Nodup) : ((l.filter fun d => d.2 != 0).map (·.1)).Nodup :=
  (List.filter_sublist.map _).nodup hn
theorem nodup_of_keys {l : List Dl} (hn : (l.map (·.1)).Nodup) : l.Nodup := by
  induction l with
  | nil => exact List.nodup_nil
  | cons x r ih =>
    simp only [List.map_cons, List.nodup_cons] at hn
    exact List.nodup_cons.2 ⟨fun h => hn.1 (List.mem_map.2 ⟨x, h, rfl⟩), ih hn.2⟩
/-- Two lists of apart paths without zeros that give each path the same number have the same elements. -/
theorem dval_perm {l m : List Dl} (hl : (l.map (·.1)).Nodup) (hm : (m.map (·.1)).Nodup) (zl : ∀ d ∈ l, d.2 ≠ 0) (zm : ∀ d ∈ m, d.2 ≠ 0) (h : ∀ q, dval q l = dval q m) : l.Perm m := by
  refine (List.perm_ext_iff_of_nodup (nodup_of_keys hl) (nodup_of_keys hm)).2 fun d => ⟨fun hd => ?_, fun hd => ?_⟩
  · have h1 := dval_mem hl hd
    have h2 := mem_dval (l := m) (q := d.1) (by rw [← h, h1]; exact zl d hd) hm
    rw [← h, h1] at h2
    exact h2
  · have h1 := dval_mem hm hd
    have h2 := mem_dval (l := l) (q := d.1) (by rw [h, h1]; exact zm d hd) hl
    rw [h, h1] at h2
    exact h2
/-- The model's lists: paths in order, each once, no zeros. -/
structure Nrm (l : List Dl) : Prop where
  lt : l.Pairwise fun a b => cmpPath a.1 b.1 < 0
  nz : ∀ d ∈ l, d.2 ≠ 0
theorem keys_of_lt {l : List Dl} (h : l.Pairwise fun a b => cmpPath a.1 b.1 < 0) : (l.map (·.1)).Nodup := by
  induction l with
  | nil => simp
  | cons x r ih =>
    rw [List.pairwise_cons] at h
    simp only [List.map_cons, List.nodup_cons]
    refine ⟨fun hx => ?_, ih h.2⟩
    obtain ⟨y, hy, e⟩ := List.mem_map.1 hx
    have := h.1 y hy
    rw [e, lwPath.refl] at this
    omega
theorem Nrm.keys {l : List Dl} (h : Nrm l) : (l.map (·.1)).Nodup := keys_of_lt h.lt
theorem le_of_lt {l : List Dl} (h : l.Pairwise fun a b => cmpPath a.1 b.1 < 0) : l.Pairwise fun a b => ¬ cmpPath b.1 a.1 < 0 :=
  h.imp fun {a b} h => by have := lwPath.anti a.1 b.1; omega
theorem dl_uniq {zs zs' : List Dl} (hp : zs'.Perm zs) (hn : (zs.map (·.1)).Nodup) (h1 : zs'.Pairwise fun a b => ¬ cmpPath b.1 a.1 < 0) (h2 : zs.Pairwise fun a b => ¬ cmpPath b.1 a.1 < 0) : zs' = zs :=
  dl_uni hp (fun a ha b hb e => Prod.ext e (by have := dval_mem hn ha; have h3 := dval_mem hn hb; rw [e] at this; rw [← this, ← h3])) h1 h2
theorem nrm_ext {l m : List Dl} (hl : Nrm l) (hm : Nrm m) (h : ∀ q, dval q l = dval q m) : l = m :=
  dl_uniq (dval_perm hl.keys hm.keys hl.nz hm.nz h) hm.keys (le_of_lt hl.lt) (le_of_lt hm.lt)
/-! ### the model's with -/
def withD (p : List Nm) (b : Int) : List Dl → List Dl
  | [] => if b ≠ 0 then [(p, b)] else []
  | d :: r => if cmpPath d.1 p < 0 then d :: withD p b r else if cmpPath d.1 p = 0 then (if IntKind.i64.wrap (b + d.2) ≠ 0 then (p, IntKind.i64.wrap (b + d.2)) :: r else r) else (if b ≠ 0 then (p, b) :: d :: r else d :: r)
/-- No number of a list is greater than n. -/
def Bnd (n : Int) (l : List Dl) : Prop := ∀ d ∈ l, -n ≤ d.2 ∧ d.2 ≤ n
theorem withD_bnd {p : List Nm} {b n k : Int} (hk : -k ≤ b ∧ b ≤ k) (hn : 0 ≤ n) (hs : n + k < 9223372036854775808) : ∀ {l : List Dl}, Bnd n l → Bnd (n + k) (withD p b l)
  | [], _ => by
    intro d hd
    simp only [withD] at hd
    split at hd
    · rw [List.mem_singleton] at hd; subst hd; simp only; omega
    · simp at hd
  | x :: r, h => by
    have hx := h x (by simp)
    have hr : Bnd n r := fun d hd => h d (by simp [hd])
    have ih := withD_bnd (p := p) hk hn hs hr
    have hr2 : ∀ d ∈ r, -(n + k) ≤ d.2 ∧ d.2 ≤ n + k := fun d hd => by have := hr d hd; omega
    have hw : IntKind.i64.wrap (b + x.2) = b + x.2 := w64 (by omega) (by omega)
    intro d hd
    simp only [withD] at hd
    split at hd
    · rcases List.mem_cons.1 hd with rfl | hd
      · omega
      · exact ih d hd
    · split at hd
      · split at hd
        · rcases List.mem_cons.1 hd with rfl | hd
          · simp only; omega
          · exact hr2 d hd
        · exact hr2 d hd
      · split at hd
        · rcases List.mem_cons.1 hd with rfl | hd
          · simp only; omega
          · rcases List.mem_cons.1 hd with rfl | hd
            · omega
            · exact hr2 d hd
        · rcases List.mem_cons.1 hd with rfl | hd
          · omega
          · exact hr2 d hd
theorem dval_gt {q : List Nm} {l : List Dl} (h : ∀ d ∈ l, cmpPath q d.1 < 0) : dval q l = 0 :=
  dval_none fun d hd e => by have := h d hd; rw [e, lwPath.refl] at this; omega
theorem withD_spec {p : List Nm} {b n k : Int} (hk : -k ≤ b ∧ b ≤ k) (hn : 0 ≤ n) (hs : n + k < 9223372036854775808) : ∀ {l : List Dl}, Nrm l → Bnd n l →
    Nrm (withD p b l) ∧ (∀ q, dval q (withD p b l) = dval q l + if p = q then b else 0) ∧ ∀ q, cmpPath q p < 0 → (∀ d ∈ l, cmpPath q d.1 < 0) → ∀ d ∈ withD p b l, cmpPath q d.1 < 0
  | [], _, _ => by
    simp only [withD]
    split
    · rename_i h
      refine ⟨⟨by simp, by simpa using h⟩, fun q => by simp [dval], fun q h1 _ d hd => ?_⟩
      rw [List.mem_singleton] at hd; subst hd; exact h1
    · rename_i h
      have h : b = 0 := by omega
      refine ⟨⟨by simp, by simp⟩, fun q => by simp [dval, h], fun q _ _ d hd => by simp at hd⟩
  | x :: r, hl, hb => by
    have hx := hb x (by simp)
    have hlt := List.pairwise_cons.1 hl.lt
    have hr : Nrm r := ⟨hlt.2, fun d hd => hl.nz d (by simp [hd])⟩
    have ih := withD_spec (p := p) hk hn hs hr fun d hd => hb d (by simp [hd])
    have hw : IntKind.i64.wrap (b + x.2) = b + x.2 := w64 (by omega) (by omega)
    simp only [withD]
    split
    · rename_i h1
      refine ⟨⟨List.pairwise_cons.2 ⟨ih.2.2 x.1 h1 hlt.1, ih.1.lt⟩, fun d hd => ?_⟩, fun q => by simp only [dval, ih.2.1]; omega, fun q h2 h3 d hd => ?_⟩
      · rcases List.mem_cons.1 hd with rfl | hd
        · exact hl.nz d (by simp)
        · exact ih.1.nz d hd
      · rcases List.mem_cons.1 hd with rfl | hd
        · exact h3 d (by simp)
        · exact ih.2.2 q h2 (fun d hd => h3 d (by simp [hd])) d hd
    · rename_i h1
      split
      · rename_i h2
        have e := lwPath.eq _ _ h2
        rw [hw]
        split
        · rename_i h3
          refine ⟨⟨List.pairwise_cons.2 ⟨fun d hd => by rw [← e]; exact hlt.1 d hd, hlt.2⟩, fun d hd => ?_⟩, fun q => ?_, fun q h4 h5 d hd => ?_⟩
          · rcases List.mem_cons.1 hd with rfl | hd
            · exact h3
            · exact hr.nz d hd
          · simp only [dval, e]; split <;> omega
          · rcases List.mem_cons.1 hd with rfl | hd
            · exact h4
            · exact h5 d (by simp [hd])
        · rename_i h3
          refine ⟨hr, fun q => ?_, fun q h4 h5 d hd => h5 d (by simp [hd])⟩
          simp only [dval, e]; split <;> omega
      · rename_i h2
        have h0 : cmpPath p x.1 < 0 := by have := lwPath.anti x.1 p; omega
        split
        · rename_i h3
          refine ⟨⟨List.pairwise_cons.2 ⟨fun d hd => ?_, hl.lt⟩, fun d hd => ?_⟩, fun q => by simp only [dval]; omega, fun q h4 h5 d hd => ?_⟩
          · rcases List.mem_cons.1 hd with rfl | hd
            · exact h0
            · have := hlt.1 d hd
              exact lwPath.lt1 h0 (by omega)
          · rcases List.mem_cons.1 hd with rfl | hd
            · exact h3
            · exact hl.nz d hd
          · rcases List.mem_cons.1 hd with rfl | hd
            · exact h4
            · exact h5 d hd
        · rename_i h3
          have h3 : b = 0 := by omega
          exact ⟨hl, fun q => by rw [h3]; simp, fun q h4 h5 d hd => h5 d hd⟩
mutual
def Shp.pathsD (by_ : Int) : Shp → List Nm → List Dl → List Dl
  | .mk s o ks, above, ds => pathssD by_ ks (above ++ [(s, o)]) (withD (above ++ [(s, o)]) by_ ds)
def pathssD (by_ : Int) : List Shp → List Nm → List Dl → List Dl
  | [], _, ds => ds
  | x :: r, path, ds => pathssD by_ r path (x.pathsD by_ path ds)
end
mutual
/-- The number of a path in a shape. -/
def Shp.cnt (q : List Nm) : Shp → List Nm → Int
  | .mk s o ks, above => (if above ++ [(s, o)] = q then 1 else 0) + cnts q ks (above ++ [(s, o)])
def cnts (q : List Nm) : List Shp → List Nm → Int
  | [], _ => 0
  | x :: r, path => x.cnt q path + cnts q r path
end
mutual
theorem pathsD_spec {b : Int} (hb : b = 1 ∨ b = -1) : ∀ (x : Shp) (above : List Nm) (l : List Dl) (n : Int), Nrm l → 0 ≤ n → Bnd n l → n + x.size < 9223372036854775808 →
    Nrm (x.pathsD b above l) ∧ Bnd (n + x.size) (x.pathsD b above l) ∧ ∀ q, dval q (x.pathsD b above l) = dval q l + b * x.cnt q above
  | .mk s o ks, above, l, n, hl, hn, hB, hs => by
    simp only [Shp.size] at hs
    have hk : -1 ≤ b ∧ b ≤ 1 := by omega
    have h1 := withD_spec (p := above ++ [(s, o)]) hk hn (by omega) hl hB
    have h2 := withD_bnd (p := above ++ [(s, o)]) hk hn (by omega) hB
    have h3 := pathssD_spec hb ks (above ++ [(s, o)]) (withD (above ++ [(s, o)]) b l) (n + 1) h1.1 (by omega) h2 (by omega)
    simp only [Shp.pathsD, Shp.size, Shp.cnt]
    refine ⟨h3.1, ?_, fun q => ?_⟩
    · have e : n + ((1 + sizes ks : Nat) : Int) = n + 1 + sizes ks := by omega
      rw [e]; exact h3.2.1
    · rw [h3.2.2 q, h1.2.1 q, Int.mul_add]
      split <;> omega
theorem pathssD_spec {b : Int} (hb : b = 1 ∨ b = -1) : ∀ (ks : List Shp) (path : List Nm) (l : List Dl) (n : Int), Nrm l → 0 ≤ n → Bnd n l → n + sizes ks < 9223372036854775808 →
    Nrm (pathssD b ks path l) ∧ Bnd (n + sizes ks) (pathssD b ks path l) ∧ ∀ q, dval q (pathssD b ks path l) = dval q l + b * cnts q ks path
  | [], path, l, n, hl, hn, hB, hs => by
    simp only [pathssD, sizes, cnts]
    exact ⟨hl, by simpa using hB, fun q => by simp⟩
  | x :: r, path, l, n, hl, hn, hB, hs => by
    simp only [sizes] at hs
    have h1 := pathsD_spec hb x path l n hl hn hB (by omega)
    have h2 := pathssD_spec hb r path (x.pathsD b path l) (n + x.size) h1.1 (by omega) h1.2.1 (by omega)
    simp only [pathssD, sizes, cnts]
    refine ⟨h2.1, ?_, fun q => ?_⟩
    · have e : n + ((x.size + sizes r : Nat) : Int) = n + x.size + sizes r := by omega
      rw [e]; exact h2.2.1
    · rw [h2.2.2 q, h1.2.2 q, Int.mul_add]; omega
end
/-! ### the program's map -/
def okD (l : List Dl) : Prop := ∀ d ∈ l, okP d.1
theorem addD_spec {p : List Nm} {b n : Int} (hk : -1 ≤ b ∧ b ≤ 1) (hn : 0 ≤ n) (hs : n + 1 < 9223372036854775808) (hp : okP p) : ∀ {l : List Dl}, Bnd n l → okD l →
    Bnd (n + 1) (addD p b l) ∧ okD (addD p b l) ∧ (∀ q, dval q (addD p b l) = dval q l + if p = q then b else 0)
  | [], _, _ => by
    simp only [addD]
    refine ⟨fun d hd => ?_, fun d hd => ?_, fun q => by simp [dval]⟩
    · rw [List.mem_singleton] at hd; subst hd; simp only; omega
    · rw [List.mem_singleton] at hd; subst hd; exact hp
  | x :: r, hB, hO => by
    have hx := hB x (by simp)
    have ho := hO x (by simp)
    have hr : Bnd n r := fun d hd => hB d (by simp [hd])
    have hr2 : Bnd (n + 1) r := fun d hd => by have := hr d hd; omega
    have hor : okD r := fun d hd => hO d (by simp [hd])
    have ih := addD_spec (p := p) hk hn hs hp hr hor
    have hw : IntKind.i64.wrap (x.2 + b) = x.2 + b := w64 (by omega) (by omega)
    simp only [addD]
    split
    · rename_i h
      have e := pathB_inj ho hp h
      rw [hw]
      refine ⟨fun d hd => ?_, fun d hd => ?_, fun q => by simp only [dval, e]; split <;> omega⟩
      · rcases List.mem_cons.1 hd with rfl | hd
        · simp only; omega
        · exact hr2 d hd
      · rcases List.mem_cons.1 hd with rfl | hd
        · exact ho
        · exact hor d hd
    · refine ⟨fun d hd => ?_, fun d hd => ?_, fun q => by simp only [dval, ih.2.2]; omega⟩
      · rcases List.mem_cons.1 hd with rfl | hd
        · omega
        · exact ih.1 d hd
      · rcases List.mem_cons.1 hd with rfl | hd
        · exact ho
        · exact ih.2.1 d hd
mutual
/-- A shape whose texts fit. -/
def Shp.okS : Shp → Prop
  | .mk s o ks => (s.size < 9223372036854775808 ∧ o.size < 9223372036854775808) ∧ okSs ks
def okSs : List Shp → Prop
  | [] => True
  | x :: r => x.okS ∧ okSs r
end
theorem okP_app {p : List Nm} {s o : ByteArray} (h : okP p) (k : s.size < 9223372036854775808 ∧ o.size < 9223372036854775808) : okP (p ++ [(s, o)]) := fun n hn => by
  rcases List.mem_append.1 hn with hn | hn
  · exact h n hn
  · rw [List.mem_singleton] at hn; subst hn; exact k
mutual
theorem addS_spec {b : Int} (hb : b = 1 ∨ b = -1) : ∀ (x : Shp) (above : List Nm) (l : List Dl) (n : Int), x.okS → okP above → 0 ≤ n → Bnd n l → okD l → n + x.size < 9223372036854775808 →
    Bnd (n + x.size) (x.addS b above l) ∧ okD (x.addS b above l) ∧ ∀ q, dval q (x.addS b above l) = dval q l + b * x.cnt q above
  | .mk s o ks, above, l, n, hk, ha, hn, hB, hO, hs => by
    simp only [Shp.size] at hs
    simp only [Shp.okS] at hk
    have hp := okP_app ha hk.1
    have h1 := addD_spec (b := b) (by omega) hn (by omega) hp hB hO
    have h3 := addsS_spec hb ks (above ++ [(s, o)]) (addD (above ++ [(s, o)]) b l) (n + 1) hk.2 hp (by omega) h1.1 h1.2.1 (by omega)
    simp only [Shp.addS, Shp.size, Shp.cnt]
    refine ⟨?_, h3.2.1, fun q => ?_⟩
    · have e : n + ((1 + sizes ks : Nat) : Int) = n + 1 + sizes ks := by omega
      rw [e]; exact h3.1
    · rw [h3.2.2 q, h1.2.2 q, Int.mul_add]
      split <;> omega
theorem addsS_spec {b : Int} (hb : b = 1 ∨ b = -1) : ∀ (ks : List Shp) (path : List Nm) (l : List Dl) (n : Int), okSs ks → okP path → 0 ≤ n → Bnd n l → okD l → n + sizes ks < 9223372036854775808 →
    Bnd (n + sizes ks) (addsS b ks path l) ∧ okD (addsS b ks path l) ∧ ∀ q, dval q (addsS b ks path l) = dval q l + b * cnts q ks path
  | [], path, l, n, hk, hp, hn, hB, hO, hs => by
    simp only [addsS, sizes, cnts]
    exact ⟨by simpa using hB, hO, fun q => by simp⟩
  | x :: r, path, l, n, hk, hp, hn, hB, hO, hs => by
    simp only [sizes] at hs
    simp only [okSs] at hk
    have h1 := addS_spec hb x path l n hk.1 hp hn hB hO (by omega)
    have h2 := addsS_spec hb r path (x.addS b path l) (n + x.size) hk.2 hp (by omega) h1.1 h1.2.1 (by omega)
    simp only [addsS, sizes, cnts]
    refine ⟨?_, h2.2.1, fun q => ?_⟩
    · have e : n + ((x.size + sizes r : Nat) : Int) = n + x.size + sizes r := by omega
      rw [e]; exact h2.1
    · rw [h2.2.2 q, h1.2.2 q, Int.mul_add]; omega
end
theorem keys_path {l : List Dl} (h : (l.map fun d => pkey d.1).Nodup) : (l.map (·.1)).Nodup := by
  have : (l.map fun d => pkey d.1) = (l.map (·.1)).map pkey := by simp [Function.comp_def]
  rw [this] at h
  exact List.Pairwise.of_map pkey (fun a b h e => h (congrArg pkey e)) h
/-- The list of a map is the model's list that gives each path the same number. -/
theorem list_is (c55 : SortC Try.prog 55 2) {ds zs : List Dl} (hlen : ds.length * 32 ≤ 140737488355328) (hk : (ds.map fun d => pkey d.1).Nodup) (hz : Nrm zs) (h : ∀ q, dval q ds = dval q zs) :
    PCall Try.prog 39 [.c (.im (.mp 9 (dA ds)))] (lsT zs) := by
  have hf := filter_keys (keys_path hk)
  refine list_c c55 cmpOr_c ds zs hlen (fun l _ => cmpPath_ord l) ?_ ?_
  · exact dval_perm hz.keys hf hz.nz (fun d hd => by simpa using (List.mem_filter.1 hd).2) fun q => by rw [dval_filter, h]
  · exact fun zs' hp h1 => dl_uniq hp hz.keys h1 (le_of_lt hz.lt)
theorem nrm_nil : Nrm [] := ⟨List.Pairwise.nil, by simp⟩
theorem bnd_nil (n : Int) : Bnd n [] := fun d hd => by simp at hd
theorem paths_is (c55 : SortC Try.prog 55 2) (x : Shp) (hk : x.okS) (hw : x.tw ≤ 140737488355328) (hs : x.size < 4611686018427387904) : PCall Try.prog 24 [shT x] (lsT (x.pathsD 1 [] [])) := by
  have h1 := pathsD_spec (.inl rfl) x [] [] 0 nrm_nil (Int.le_refl _) (bnd_nil _) (by omega)
  have h2 := addS_spec (b := 1) (.inl rfl) x [] [] 0 hk (fun n hn => by simp at hn) (Int.le_refl _) (bnd_nil _) (fun d hd => by simp at hd) (by omega)
  refine paths_c x _ (list_is c55 ?_ (addS_keys 1 x [] [] (by simp)) h1.1 fun q => by rw [h1.2.2, h2.2.2]) hw
  have := addS_len 1 x [] []
  simp only [List.length_nil, Nat.zero_mul, Nat.zero_add] at this
  omega
def Shp.diff (a b : Shp) : List Dl := a.pathsD (-1) [] (b.pathsD 1 [] [])
theorem diff_spec (a b : Shp) (hs : a.size + b.size < 4611686018427387904) : Nrm (a.diff b) ∧ Bnd (b.size + a.size) (a.diff b) ∧ ∀ q, dval q (a.diff b) = b.cnt q [] - a.cnt q [] := by
  have h1 := pathsD_spec (b := 1) (.inl rfl) b [] [] 0 nrm_nil (Int.le_refl _) (bnd_nil _) (by omega)
  have h2 := pathsD_spec (b := -1) (.inr rfl) a [] (b.pathsD 1 [] []) (0 + b.size) h1.1 (by omega) h1.2.1 (by omega)
  refine ⟨h2.1, by have := h2.2.1; rwa [Int.zero_add] at this, fun q => ?_⟩
  have := h2.2.2 q
  rw [h1.2.2 q] at this
  simp only [dval] at this
  simp only [Shp.diff]
  omega
theorem diff_is (c55 : SortC Try.prog 55 2) (a b : Shp) (hka : a.okS) (hkb : b.okS) (hwa : a.tw + b.tw ≤ 140737488355328) (hs : a.size + b.size < 4611686018427387904) : PCall Try.prog 20 [shT a, shT b] (lsT (a.diff b)) := by
  have h1 := diff_spec a b hs
  have h2 := addS_spec (b := 1) (.inl rfl) b [] [] 0 hkb (fun n hn => by simp at hn) (Int.le_refl _) (bnd_nil _) (fun d hd => by simp at hd) (by omega)
  have h3 := addS_spec (b := -1) (.inr rfl) a [] (b.addS 1 [] []) (0 + b.size) hka (fun n hn => by simp at hn) (by omega) h2.1 h2.2.1 (by omega)
  refine diff_c a b _ (list_is c55 ?_ (addS_keys (-1) a [] _ (addS_keys 1 b [] [] (by simp))) h1.1 fun q => by rw [h1.2.2, h3.2.2, h2.2.2]; simp only [dval]; omega) (by omega) (by omega)
  have l1 := addS_len 1 b [] []
  have l2 := addS_len (-1) a [] (b.addS 1 [] [])
  simp only [List.length_nil, Nat.zero_mul, Nat.zero_add] at l1
  omega
end Go.Proofs.Ytegcmciglakicaa
namespace Go.Proofs.Ytegcmciglakicaa
open Go.RowKit Go.Exe
set_option linter.unusedVariables false
set_option linter.unusedSimpArgs false
set_option maxHeartbeats 1000000
set_option maxRecDepth 100000
attribute [local irreducible] W AX Run RunD AStep AOp AOpX AStB AStH AStG Fits PCall GCall PostG Post Stop

/-! ### the canonical form has the same nodes -/
theorem cnts_perm (q path : List Nm) {l m : List Shp} (h : l.Perm m) : cnts q l path = cnts q m path := by
  induction h with
  | nil => rfl
  | cons x _ ih => simp [cnts, ih]
  | swap x y l => simp only [cnts]; omega
  | trans _ _ h1 h2 => rw [h1, h2]
theorem tws_perm {l m : List Shp} (h : l.Perm m) : tws l = tws m := by
  induction h with
  | nil => rfl
  | cons x _ ih => simp [tws, ih]
  | swap x y l => simp only [tws]; omega
  | trans _ _ h1 h2 => rw [h1, h2]
theorem sizes_perm {l m : List Shp} (h : l.Perm m) : sizes l = sizes m := by
  induction h with
  | nil => rfl
  | cons x _ ih => simp [sizes, ih]
  | swap x y l => simp only [sizes]; omega
  | trans _ _ h1 h2 => rw [h1, h2]
theorem keysW_perm {l m : List Shp} (h : l.Perm m) : keysW l = keysW m := by
  induction h with
  | nil => rfl
  | cons x _ ih => simp [keysW, ih]
  | swap x y l => simp only [keysW]; omega
  | trans _ _ h1 h2 => rw [h1, h2]
theorem okSs_perm {l m : List Shp} (h : l.Perm m) : okSs l ↔ okSs m := by
  induction h with
  | nil => exact Iff.rfl
  | cons x _ ih => simp [okSs, ih]
  | swap x y l => simp only [okSs]; exact ⟨fun ⟨a, b, c⟩ => ⟨b, a, c⟩, fun ⟨a, b, c⟩ => ⟨b, a, c⟩⟩
  | trans _ _ h1 h2 => exact h1.trans h2
mutual
theorem canon_cnt (q : List Nm) : ∀ (x : Shp) (above : List Nm), x.canon.cnt q above = x.cnt q above
  | .mk s o ks, above => by simp only [Shp.canon, Shp.cnt]; rw [cnts_perm q _ (srt_perm _), canons_cnt q ks]
theorem canons_cnt (q : List Nm) : ∀ (l : List Shp) (path : List Nm), cnts q (canons l) path = cnts q l path
  | [], _ => rfl
  | x :: r, path => by simp only [canons, cnts]; rw [canon_cnt q x, canons_cnt q r]
end
mutual
theorem canon_tw : ∀ x : Shp, x.canon.tw = x.tw
  | .mk s o ks => by simp only [Shp.canon, Shp.tw]; rw [tws_perm (srt_perm _), canons_tw ks]
theorem canons_tw : ∀ l : List Shp, tws (canons l) = tws l
  | [] => rfl
  | x :: r => by simp only [canons, tws]; rw [canon_tw x, canons_tw r]
end
mutual
theorem canon_size : ∀ x : Shp, x.canon.size = x.size
  | .mk s o ks => by simp only [Shp.canon, Shp.size]; rw [sizes_perm (srt_perm _), canons_size ks]
theorem canons_size : ∀ l : List Shp, sizes (canons l) = sizes l
  | [] => rfl
  | x :: r => by simp only [canons, sizes]; rw [canon_size x, canons_size r]
end
mutual
theorem canon_keyW : ∀ x : Shp, x.canon.keyW = x.keyW
  | .mk s o ks => by simp only [Shp.canon, Shp.keyW]; rw [keysW_perm (srt_perm _), canons_keyW ks]
theorem canons_keyW : ∀ l : List Shp, keysW (canons l) = keysW l
  | [] => rfl
  | x :: r => by simp only [canons, keysW]; rw [canon_keyW x, canons_keyW r]
end
mutual
theorem canon_okS : ∀ x : Shp, x.canon.okS ↔ x.okS
  | .mk s o ks => by simp only [Shp.canon, Shp.okS]; rw [okSs_perm (srt_perm _), canons_okS ks]
theorem canons_okS : ∀ l : List Shp, okSs (canons l) ↔ okSs l
  | [] => Iff.rfl
  | x :: r => by simp only [canons, okSs]; rw [canon_okS x, canons_okS r]
end
/-! ### how large a made shape is -/
theorem svc_size (b : Nat) : (svc b).size ≤ 3 := by unfold svc; split; · decide
                                                    · split <;> decide
theorem opn_size (b : Nat) : (opn b).size ≤ 3 := by unfold opn; split <;> decide
mutual
theorem growF_tw : ∀ (f : Nat) (p : List Nat), (growF f p).1.tw ≤ 40 * (growF f p).1.size ∧ (growF f p).1.okS ∧ (growF f p).1.keyW ≤ 40 * (growF f p).1.size
  | 0, p => by simp [growF, Shp.tw, Shp.size, tws, sizes, Shp.okS, okSs, Shp.keyW, keysW]
  | f + 1, [] => by simp [growF, Shp.tw, Shp.size, tws, sizes, Shp.okS, okSs, Shp.keyW, keysW]
  | f + 1, b :: r => by
    have h1 := kidsF_tw f (b / 3 % 4) r
    have h2 := svc_size b
    have h3 := opn_size b
    simp only [growF, Shp.tw, Shp.size, Shp.okS, Shp.keyW]
    exact ⟨by omega, ⟨⟨by omega, by omega⟩, h1.2.1⟩, by omega⟩
termination_by f _ => (f, 0)
theorem kidsF_tw : ∀ (f n : Nat) (p : List Nat), tws (kidsF f n p).1 ≤ 40 * sizes (kidsF f n p).1 ∧ okSs (kidsF f n p).1 ∧ keysW (kidsF f n p).1 ≤ 40 * sizes (kidsF f n p).1
  | _, 0, l => by simp [kidsF, tws, sizes, okSs, keysW]
  | _, _ + 1, [] => by simp [kidsF, tws, sizes, okSs, keysW]
  | f, n + 1, b :: r => by
    have h1 := growF_tw f (b :: r)
    have h2 := kidsF_tw f n (growF f (b :: r)).2
    simp only [kidsF, tws, sizes, okSs, keysW]
    exact ⟨by omega, ⟨h1.2.1, h2.2.1⟩, by omega⟩
termination_by f n _ => (f, n + 1)
end
theorem madeP_tw (p : List Nat) : (madeP p).tw ≤ 3880 := by
  have h := (growF_tw 24 (p.take 24)).1
  have h2 := madeP_size p
  unfold madeP at *
  omega
theorem madeP_keyW (p : List Nat) : (madeP p).keyW ≤ 3880 := by
  have h := (growF_tw 24 (p.take 24)).2.2
  have h2 := madeP_size p
  unfold madeP at *
  omega
theorem madeP_okS (p : List Nat) : (madeP p).okS := (growF_tw 24 (p.take 24)).2.1
end Go.Proofs.Ytegcmciglakicaa
namespace Go.Proofs.Ytegcmciglakicaa
open Go.RowKit Go.Exe
set_option linter.unusedVariables false
set_option linter.unusedSimpArgs false
set_option maxHeartbeats 1000000
set_option maxRecDepth 100000
attribute [local irreducible] W AX Run RunD AStep AOp AOpX AStB AStH AStG Fits PCall GCall PostG Post Stop

/-! ### what the reader of a number answers -/
def byteAt (s : ByteArray) (i : Nat) : Nat := (s.toList.getD i 0).toNat
theorem byteAt_lt (s : ByteArray) (i : Nat) : byteAt s i < 256 := UInt8.toNat_lt _
def rb (s : ByteArray) (a : Nat) (neg : Bool) (i : Nat) : Nat := if neg then 255 - byteAt s (a + i) else byteAt s (a + i)
theorem rb_lt (s : ByteArray) (a : Nat) (neg : Bool) (i : Nat) : rb s a neg i < 256 := by
  have := byteAt_lt s (a + i)
  unfold rb; split <;> omega
def mag (s : ByteArray) (a : Nat) (neg : Bool) : Nat → Nat
  | 0 => 0
  | i + 1 => mag s a neg i * 256 + rb s a neg i
theorem mag_lt (s : ByteArray) (a : Nat) (neg : Bool) : ∀ i, mag s a neg i < 256 ^ i
  | 0 => by simp [mag]
  | i + 1 => by
    have h1 := mag_lt s a neg i
    have h2 := rb_lt s a neg i
    simp only [mag, Nat.pow_succ]
    omega
def rdSize (h : Nat) : Nat := if h < 128 then 128 - h else h - 128
def rdEnd (m : Nat) (neg : Bool) (next : Nat) : Int × Nat × Int :=
  if neg then (if m > 9223372036854775808 then (0, 0, 3) else (IntKind.i64.wrap (IntKind.u64.wrap (0 - (m : Int))), next, 0))
  else if m > 9223372036854775807 then (0, 0, 3) else ((m : Int), next, 0)
def rdMag (s : ByteArray) (a : Nat) (neg : Bool) (size : Nat) : Int × Nat × Int :=
  if s.size - a < size then (0, 0, 4)
  else if 0 < size ∧ rb s a neg 0 = 0 then (0, 0, 3)
  else rdEnd (mag s a neg size) neg (a + size)
def rdNum (s : ByteArray) (at_ : Nat) : Int × Nat × Int :=
  if s.size ≤ at_ then (0, 0, 4)
  else if 8 < rdSize (byteAt s at_) then (0, 0, 3)
  else rdMag s (at_ + 1) (decide (byteAt s at_ < 128)) (rdSize (byteAt s at_))
abbrev rdB (s : ByteArray) (at_ : Nat) (e : Int) : Exe.Obj := .box 80 [fl (.string s), fl (.int .i64 (at_ : Nat)), fl (.int .i64 e)]
def numT (x : Int × Nat × Int) : TV := .t [(false, [fl (.int .i64 x.1)]), (false, [fl (.int .i64 (x.2.1 : Nat))]), (false, [fl (.int .i64 x.2.2)])]
theorem or_bytes {m b : Nat} (hm : m < 72057594037927936) (hb : b < 256) : bitsV .or .u64 ((m * 256 : Nat) : Int) (b : Int) = some ((m * 256 + b : Nat) : Int) := by
  have h1 : (BitVec.ofInt 64 ((m * 256 : Nat) : Int) ||| BitVec.ofInt 64 (b : Int)).toNat = m * 256 + b := by
    rw [BitVec.ofInt_natCast, BitVec.ofInt_natCast, BitVec.toNat_or, BitVec.toNat_ofNat, BitVec.toNat_ofNat, Nat.mod_eq_of_lt (by omega), Nat.mod_eq_of_lt (by omega)]
    have := Nat.shiftLeft_add_eq_or_of_lt (i := 8) (b := b) (by simpa using hb) m
    rw [Nat.shiftLeft_eq] at this
    exact this.symm
  show some (IntKind.u64.wrap ((BitVec.ofInt 64 ((m * 256 : Nat) : Int) ||| BitVec.ofInt 64 (b : Int)).toNat : Int)) = _
  rw [h1, IntKind.wrap_u64]
  congr 1
  omega
theorem number_r (s : ByteArray) (a0 at_ : Nat) (e : Int) (hs : s.size ≤ 140737488355328) (ha : at_ ≤ 140737488355328) :
    GCall Try.prog 74 1 (St.g [.c (.ptr 0 0), ft (.int .i64 (at_ : Nat))] [(0, rdB s a0 e)] 1) (St.r (numT (rdNum s at_)) [(0, rdB s a0 e)] 1) := by
  unfold rdNum
  simp only [rdB]
  refine GCall.introG (nt := 94) (rs := [.tmp 4, .tmp 5, .tmp 6]) Try.func74 rfl ⟨by kernel_rfl, by kernel_rfl, by kernel_rfl⟩ (by simp) ?_
  rintro ⟨P, w0, ok0, may, np, pblk⟩ rfl rfl
  simp only [go_sem]
  by_cases h0 : s.size ≤ at_
  · have e1 : decide ((at_ : Int) ≥ s.size) = true := by simp; omega
    repeat' (first
      | ((show W _ _ _ _); first | (refine W.seq fun K hK => ?_) | refine W.block ?_ | (refine W.reg rfl ?_; simp only [go_sem, reduceCtorEq, e1]) | (refine W.regD Try_mo rfl rfl ?_; simp only [go_sem, reduceCtorEq, e1]) | (refine W.skip ?_; simp only [go_sem]) | (refine W.exit ?_; simp only [go_sem]) | (refine W.ret (Post.ret ?_); simp only [go_sem, reduceCtorEq, e1]) | refine W.condT rfl ?_ | refine W.condF rfl ?_ | refine W.cond rfl (fun h => ?_) (fun h => ?_))
      | ((show AX _ _ _ _ _); first | (refine AX.pcall rfl rfl (by simp only [go_sem, unim_im]; rfl) (by solve_by_elim) rfl rfl ?_; simp only [go_sem, reduceCtorEq, e1]) | (refine AX.pcallF rfl rfl (by simp only [go_sem, unim_im]; rfl) (by simp only [go_sem, unim_im]; rfl) (by solve_by_elim) rfl rfl ?_; simp only [go_sem, reduceCtorEq, e1]) | (refine AX.shl rfl rfl rfl rfl (by first | decide | omega) ?_; simp only [go_sem, reduceCtorEq, e1]) | (refine AX.bits rfl rfl rfl (by assumption) rfl ?_; simp only [go_sem, reduceCtorEq, e1]))
      | ((show indepK _ _ _ _ = true ∧ _); refine And.intro (by kernel_rfl) ?_)
      | ((show _ ∧ _); refine And.intro (by first | omega | assumption | (simp only [go_sem]; omega) | (simp; omega) | (simp; done)) ?_)
      | (refine hK _ ?_; clear hK K)
      | (clear hK K; refine hK _ ?_; clear hK K)
      | (clear hK K; clear hK K; refine hK _ ?_; clear hK K)
      | (clear hK K; clear hK K; clear hK K; refine hK _ ?_; clear hK K)
      | fail)
    refine W.ret (PostG.ret (Fits.fit [(0, 0)] [4, 5, 6] 1 rfl rfl Fits.rfl) rfl rfl ?_)
    simp only [St.r, go_sem, if_pos h0, numT]
    rfl
  rw [if_neg h0]
  have e1 : decide ((at_ : Int) ≥ s.size) = false := by simp; omega
  have hh := byteAt_lt s at_
  have e2 : IntKind.i64.wrap (IntKind.i64.wrap ((s.toList.getD at_ 0).toNat : Int) - 128) = (byteAt s at_ : Int) - 128 := by
    show IntKind.i64.wrap (IntKind.i64.wrap (byteAt s at_ : Int) - 128) = _
    rw [w64 (n := (byteAt s at_ : Int)) (by omega) (by omega), w64 (by omega) (by omega)]
  repeat' (first
    | ((show W _ _ _ _); first | refine W.stop (id := 4) ?_ | (refine W.seq fun K hK => ?_) | refine W.block ?_ | (refine W.reg rfl ?_; simp only [go_sem, reduceCtorEq, e1, e2]) | (refine W.regD Try_mo rfl rfl ?_; simp only [go_sem, reduceCtorEq, e1, e2]) | (refine W.skip ?_; simp only [go_sem]) | (refine W.exit ?_; simp only [go_sem]) | (refine W.ret (Post.ret ?_); simp only [go_sem, reduceCtorEq, e1, e2]) | refine W.condT rfl ?_ | refine W.condF rfl ?_ | refine W.cond rfl (fun h => ?_) (fun h => ?_))
    | ((show AX _ _ _ _ _); first | (refine AX.pcall rfl rfl (by simp only [go_sem, unim_im]; rfl) (by solve_by_elim) rfl rfl ?_; simp only [go_sem, reduceCtorEq, e1, e2]) | (refine AX.pcallF rfl rfl (by simp only [go_sem, unim_im]; rfl) (by simp only [go_sem, unim_im]; rfl) (by solve_by_elim) rfl rfl ?_; simp only [go_sem, reduceCtorEq, e1, e2]) | (refine AX.shl rfl rfl rfl rfl (by first | decide | omega) ?_; simp only [go_sem, reduceCtorEq, e1, e2]) | (refine AX.bits rfl rfl rfl (by assumption) rfl ?_; simp only [go_sem, reduceCtorEq, e1, e2]))
    | ((show indepK _ _ _ _ = true ∧ _); refine And.intro (by kernel_rfl) ?_)
    | ((show _ ∧ _); refine And.intro (by first | omega | assumption | (simp only [go_sem]; omega) | (simp; omega) | (simp; done)) ?_)
    | (refine hK _ ?_; clear hK K)
    | (clear hK K; refine hK _ ?_; clear hK K)
    | (clear hK K; clear hK K; refine hK _ ?_; clear hK K)
    | (clear hK K; clear hK K; clear hK K; refine hK _ ?_; clear hK K)
    | fail)
  refine Stop.out ?_
  refine W.fits (s' := { t := [(0, .c (.ptr 0 0)), (1, ft (.int .i64 (at_ : Nat))), (7, ft (.int .i64 ((byteAt s at_ : Int) - 128))), (8, ft (.bool false))], h := [(0, .box 80 [fl (.string s), fl (.int .i64 (a0 : Nat)), fl (.int .i64 e)])], nx := 1, ex := [], nt := 94 }) (Fits.fit [(0, 0)] [0, 1, 7, 8] 1 rfl rfl Fits.rfl) ?_
  refine W.reg rfl ?_
  simp only [go_sem, reduceCtorEq]
  refine hK _ ?_
  clear hK K
  have main : ∀ (neg : Bool) (sz : Nat), rdSize (byteAt s at_) = sz → decide (byteAt s at_ < 128) = neg → ∀ s1, Fits ⟨Try.prog, w0, ok0, may, 1, pblk⟩ s1 { t := [(0, .c (.ptr 0 0)), (1, ft (.int .i64 (at_ : Nat))), (7, ft (.int .i64 (sz : Nat))), (8, ft (.bool neg))], h := [(0, .box 80 [fl (.string s), fl (.int .i64 (a0 : Nat)), fl (.int .i64 e)])], nx := 1, ex := [], nt := 94 } → K s1 := by
    intro neg sz hsz hneg s1 hf
    refine hK _ (W.fits hf ?_); clear hK K
    rw [hsz, hneg]
    by_cases h8 : 8 < sz
    · have f1 : decide ((sz : Int) > 8) = true := by simp; omega
      repeat' (first
        | ((show W _ _ _ _); first | (refine W.seq fun K hK => ?_) | refine W.block ?_ | (refine W.reg rfl ?_; simp only [go_sem, reduceCtorEq, f1]) | (refine W.regD Try_mo rfl rfl ?_; simp only [go_sem, reduceCtorEq, f1]) | (refine W.skip ?_; simp only [go_sem]) | (refine W.exit ?_; simp only [go_sem]) | (refine W.ret (Post.ret ?_); simp only [go_sem, reduceCtorEq, f1]) | refine W.condT rfl ?_ | refine W.condF rfl ?_ | refine W.cond rfl (fun h => ?_) (fun h => ?_))
        | ((show AX _ _ _ _ _); first | (refine AX.pcall rfl rfl (by simp only [go_sem, unim_im]; rfl) (by solve_by_elim) rfl rfl ?_; simp only [go_sem, reduceCtorEq, f1]) | (refine AX.pcallF rfl rfl (by simp only [go_sem, unim_im]; rfl) (by simp only [go_sem, unim_im]; rfl) (by solve_by_elim) rfl rfl ?_; simp only [go_sem, reduceCtorEq, f1]) | (refine AX.shl rfl rfl rfl rfl (by first | decide | omega) ?_; simp only [go_sem, reduceCtorEq, f1]) | (refine AX.bits rfl rfl rfl (by assumption) rfl ?_; simp only [go_sem, reduceCtorEq, f1]))
        | ((show indepK _ _ _ _ = true ∧ _); refine And.intro (by kernel_rfl) ?_)
        | ((show _ ∧ _); refine And.intro (by first | omega | assumption | (simp only [go_sem]; omega) | (simp; omega) | (simp; done)) ?_)
        | (refine hK _ ?_; clear hK K)
        | (clear hK K; refine hK _ ?_; clear hK K)
        | (clear hK K; clear hK K; refine hK _ ?_; clear hK K)
        | (clear hK K; clear hK K; clear hK K; refine hK _ ?_; clear hK K)
        | fail)
      refine W.ret (PostG.ret (Fits.fit [(0, 0)] [4, 5, 6] 1 rfl rfl Fits.rfl) rfl rfl ?_)
      simp only [St.r, go_sem, if_pos h8, numT]
      rfl
    rw [if_neg h8]
    have f1 : decide ((sz : Int) > 8) = false := by simp; omega
    have f2 : IntKind.i64.wrap ((at_ : Int) + 1) = ((at_ + 1 : Nat) : Int) := w64s at_ (by omega)
    have f3 : IntKind.i64.wrap ((s.size : Int) - ((at_ + 1 : Nat) : Int)) = (s.size : Int) - ((at_ + 1 : Nat) : Int) := w64 (by omega) (by omega)
    by_cases ht : s.size - (at_ + 1) < sz
    · have f4 : decide ((s.size : Int) - ((at_ + 1 : Nat) : Int) < (sz : Int)) = true := by simp; omega
      repeat' (first
        | ((show W _ _ _ _); first | (refine W.seq fun K hK => ?_) | refine W.block ?_ | (refine W.reg rfl ?_; simp only [go_sem, reduceCtorEq, f1, f2, f3, f4]) | (refine W.regD Try_mo rfl rfl ?_; simp only [go_sem, reduceCtorEq, f1, f2, f3, f4]) | (refine W.skip ?_; simp only [go_sem]) | (refine W.exit ?_; simp only [go_sem]) | (refine W.ret (Post.ret ?_); simp only [go_sem, reduceCtorEq, f1, f2, f3, f4]) | refine W.condT rfl ?_ | refine W.condF rfl ?_ | refine W.cond rfl (fun h => ?_) (fun h => ?_))
        | ((show AX _ _ _ _ _); first | (refine AX.pcall rfl rfl (by simp only [go_sem, unim_im]; rfl) (by solve_by_elim) rfl rfl ?_; simp only [go_sem, reduceCtorEq, f1, f2, f3, f4]) | (refine AX.pcallF rfl rfl (by simp only [go_sem, unim_im]; rfl) (by simp only [go_sem, unim_im]; rfl) (by solve_by_elim) rfl rfl ?_; simp only [go_sem, reduceCtorEq, f1, f2, f3, f4]) | (refine AX.shl rfl rfl rfl rfl (by first | decide | omega) ?_; simp only [go_sem, reduceCtorEq, f1, f2, f3, f4]) | (refine AX.bits rfl rfl rfl (by assumption) rfl ?_; simp only [go_sem, reduceCtorEq, f1, f2, f3, f4]))
        | ((show indepK _ _ _ _ = true ∧ _); refine And.intro (by kernel_rfl) ?_)
        | ((show _ ∧ _); refine And.intro (by first | omega | assumption | (simp only [go_sem]; omega) | (simp; omega) | (simp; done)) ?_)
        | (refine hK _ ?_; clear hK K)
        | (clear hK K; refine hK _ ?_; clear hK K)
        | (clear hK K; clear hK K; refine hK _ ?_; clear hK K)
        | (clear hK K; clear hK K; clear hK K; refine hK _ ?_; clear hK K)
        | fail)
      refine W.ret (PostG.ret (Fits.fit [(0, 0)] [4, 5, 6] 1 rfl rfl Fits.rfl) rfl rfl ?_)
      simp only [St.r, go_sem, rdMag, if_pos ht, numT]
      rfl
    have f4 : decide ((s.size : Int) - ((at_ + 1 : Nat) : Int) < (sz : Int)) = false := by simp; omega
    have hmag : rdMag s (at_ + 1) neg sz = if 0 < sz ∧ rb s (at_ + 1) neg 0 = 0 then (0, 0, 3) else rdEnd (mag s (at_ + 1) neg sz) neg (at_ + 1 + sz) := by rw [rdMag, if_neg ht]
    rw [hmag]
    have hbit : ∀ i, bitsV .xor .u8 ((byteAt s (at_ + 1 + i) : Nat) : Int) (if neg then 255 else 0) = some (rb s (at_ + 1) neg i : Int) := by
      intro i
      have := byteAt_lt s (at_ + 1 + i)
      cases neg
      · exact bits0 _ this
      · exact bits255 _ this
    repeat' (first
      | ((show W _ _ _ _); first | refine W.stop (id := 12) ?_ | (refine W.seq fun K hK => ?_) | refine W.block ?_ | (refine W.reg rfl ?_; simp only [go_sem, reduceCtorEq, f1, f2, f3, f4]) | (refine W.regD Try_mo rfl rfl ?_; simp only [go_sem, reduceCtorEq, f1, f2, f3, f4]) | (refine W.skip ?_; simp only [go_sem]) | (refine W.exit ?_; simp only [go_sem]) | (refine W.ret (Post.ret ?_); simp only [go_sem, reduceCtorEq, f1, f2, f3, f4]) | refine W.condT rfl ?_ | refine W.condF rfl ?_ | refine W.cond rfl (fun h => ?_) (fun h => ?_))
      | ((show AX _ _ _ _ _); first | (refine AX.pcall rfl rfl (by simp only [go_sem, unim_im]; rfl) (by solve_by_elim) rfl rfl ?_; simp only [go_sem, reduceCtorEq, f1, f2, f3, f4]) | (refine AX.pcallF rfl rfl (by simp only [go_sem, unim_im]; rfl) (by simp only [go_sem, unim_im]; rfl) (by solve_by_elim) rfl rfl ?_; simp only [go_sem, reduceCtorEq, f1, f2, f3, f4]) | (refine AX.shl rfl rfl rfl rfl (by first | decide | omega) ?_; simp only [go_sem, reduceCtorEq, f1, f2, f3, f4]) | (refine AX.bits rfl rfl rfl (by assumption) rfl ?_; simp only [go_sem, reduceCtorEq, f1, f2, f3, f4]))
      | ((show indepK _ _ _ _ = true ∧ _); refine And.intro (by kernel_rfl) ?_)
      | ((show _ ∧ _); refine And.intro (by first | omega | assumption | (simp only [go_sem]; omega) | (simp; omega) | (simp; done)) ?_)
      | (refine hK _ ?_; clear hK K)
      | (clear hK K; refine hK _ ?_; clear hK K)
      | (clear hK K; clear hK K; refine hK _ ?_; clear hK K)
      | (clear hK K; clear hK K; clear hK K; refine hK _ ?_; clear hK K)
      | fail)
    refine Stop.out ?_
    refine W.fits (s' := { t := [(0, .c (.ptr 0 0)), (1, ft (.int .i64 (at_ + 1 : Nat))), (7, ft (.int .i64 (sz : Nat))), (8, ft (.bool neg)), (9, ft (.int .u8 0))], h := [(0, .box 80 [fl (.string s), fl (.int .i64 (a0 : Nat)), fl (.int .i64 e)])], nx := 1, ex := [], nt := 94 }) (Fits.fit [(0, 0)] [0, 1, 7, 8, 9] 1 rfl rfl Fits.rfl) ?_
    refine W.reg rfl ?_
    simp only [go_sem, reduceCtorEq]
    refine hK _ ?_
    clear hK K
    have main : ∀ s1, Fits ⟨Try.prog, w0, ok0, may, 1, pblk⟩ s1 { t := [(0, .c (.ptr 0 0)), (1, ft (.int .i64 (at_ + 1 : Nat))), (7, ft (.int .i64 (sz : Nat))), (8, ft (.bool neg)), (9, ft (.int .u8 (if neg then 255 else 0)))], h := [(0, .box 80 [fl (.string s), fl (.int .i64 (a0 : Nat)), fl (.int .i64 e)])], nx := 1, ex := [], nt := 94 } → K s1 := by
      intro s1 hf
      refine hK _ (W.fits hf ?_); clear hK K
      repeat' (first
        | ((show W _ _ _ _); first | (refine W.seq fun K hK => ?_) | refine W.block ?_ | (refine W.reg rfl ?_; simp only [go_sem, reduceCtorEq]) | (refine W.regD Try_mo rfl rfl ?_; simp only [go_sem, reduceCtorEq]) | (refine W.skip ?_; simp only [go_sem]) | (refine W.exit ?_; simp only [go_sem]) | (refine W.ret (Post.ret ?_); simp only [go_sem, reduceCtorEq]) | refine W.condT rfl ?_ | refine W.condF rfl ?_ | refine W.cond rfl (fun h => ?_) (fun h => ?_))
        | ((show AX _ _ _ _ _); first | (refine AX.pcall rfl rfl (by simp only [go_sem, unim_im]; rfl) (by solve_by_elim) rfl rfl ?_; simp only [go_sem, reduceCtorEq]) | (refine AX.pcallF rfl rfl (by simp only [go_sem, unim_im]; rfl) (by simp only [go_sem, unim_im]; rfl) (by solve_by_elim) rfl rfl ?_; simp only [go_sem, reduceCtorEq]) | (refine AX.shl rfl rfl rfl rfl (by first | decide | omega) ?_; simp only [go_sem, reduceCtorEq]) | (refine AX.bits rfl rfl rfl (by assumption) rfl ?_; simp only [go_sem, reduceCtorEq]))
        | ((show indepK _ _ _ _ = true ∧ _); refine And.intro (by kernel_rfl) ?_)
        | ((show _ ∧ _); refine And.intro (by first | omega | assumption | (simp only [go_sem]; omega) | (simp; omega) | (simp; done)) ?_)
        | (refine hK _ ?_; clear hK K)
        | (clear hK K; refine hK _ ?_; clear hK K)
        | (clear hK K; clear hK K; refine hK _ ?_; clear hK K)
        | (clear hK K; clear hK K; clear hK K; refine hK _ ?_; clear hK K)
        | fail)
      refine W.loopF (T := fun i : Nat => { t := [(0, .c (.ptr 0 0)), (1, ft (.int .i64 (at_ + 1 : Nat))), (7, ft (.int .i64 (sz : Nat))), (8, ft (.bool neg)), (9, ft (.int .u8 (if neg then 255 else 0))), (10, ft (.int .u64 (mag s (at_ + 1) neg i : Nat))), (46, ft (.int .i64 (sz : Nat))), (47, ft (.int .i64 (i : Nat)))], h := [(0, .box 80 [fl (.string s), fl (.int .i64 (a0 : Nat)), fl (.int .i64 e)])], nx := 1, ex := [], nt := 94 })
        (Inv := fun i => i ≤ sz ∧ (0 < i → rb s (at_ + 1) neg 0 ≠ 0)) (μ := fun i => sz - i) (x0 := 0) (Fits.fit [(0, 0)] [0, 1, 7, 8, 9, 10, 46, 47] 1 rfl rfl Fits.rfl) ⟨Nat.zero_le _, fun h => absurd h (Nat.lt_irrefl _)⟩ ?_
      rintro i ⟨hi, hinv⟩ KL hKL
      by_cases hlt : i < sz
      · have g0 : decide ((i : Int) < (sz : Int)) = true := by simp; omega
        have g1 : IntKind.i64.wrap (((at_ + 1 : Nat) : Int) + (i : Int)) = ((at_ + 1 + i : Nat) : Int) := by rw [w64 (by omega) (by omega)]; omega
        have g2 : bitsV .xor .u8 ((s.toList.getD (at_ + 1 + i) 0).toNat : Int) (if neg = true then 255 else 0) = some ((rb s (at_ + 1) neg i : Nat) : Int) := hbit i
        have hml := mag_lt s (at_ + 1) neg i
        have hmi : mag s (at_ + 1) neg i < 72057594037927936 := Nat.lt_of_lt_of_le hml (Nat.pow_le_pow_right (by omega) (by omega : i ≤ 7))
        have hrl := rb_lt s (at_ + 1) neg i
        have g3 : IntKind.u64.wrap ((mag s (at_ + 1) neg i : Int) * 2 ^ (min (Int.toNat 8) 64)) = ((mag s (at_ + 1) neg i * 256 : Nat) : Int) := by
          rw [show (2 : Int) ^ (min (Int.toNat 8) 64) = 256 from rfl, IntKind.wrap_u64]; omega
        have g4 : IntKind.u64.wrap ((rb s (at_ + 1) neg i : Nat) : Int) = ((rb s (at_ + 1) neg i : Nat) : Int) := by rw [IntKind.wrap_u64]; omega
        have g5 : bitsV .or .u64 ((mag s (at_ + 1) neg i * 256 : Nat) : Int) ((rb s (at_ + 1) neg i : Nat) : Int) = some ((mag s (at_ + 1) neg (i + 1) : Nat) : Int) := or_bytes hmi hrl
        have g6 := w64s i (by omega)
        have hend : ∀ s1, Fits ⟨Try.prog, w0, ok0, may, 1, pblk⟩ s1 { t := [(0, .c (.ptr 0 0)), (1, ft (.int .i64 (at_ + 1 : Nat))), (7, ft (.int .i64 (sz : Nat))), (8, ft (.bool neg)), (9, ft (.int .u8 (if neg then 255 else 0))), (10, ft (.int .u64 (mag s (at_ + 1) neg (i + 1) : Nat))), (46, ft (.int .i64 (sz : Nat))), (47, ft (.int .i64 (i + 1 : Nat)))], h := [(0, .box 80 [fl (.string s), fl (.int .i64 (a0 : Nat)), fl (.int .i64 e)])], nx := 1, ex := [], nt := 94 } → rb s (at_ + 1) neg 0 ≠ 0 → KL s1 := fun s1 hf h0 => hKL.to (i + 1) ⟨by omega, fun _ => h0⟩ (by omega) hf
        by_cases hi0 : i = 0
        · subst hi0
          have g7 : (((0 : Nat) : Int) == 0) = true := rfl
          by_cases hr0 : rb s (at_ + 1) neg 0 = 0
          · have g8 : (((rb s (at_ + 1) neg 0 : Nat) : Int) == 0) = true := by simp [hr0]
            clear hKL hend hK
            repeat' (first
              | ((show W _ _ _ _); first | (refine W.seq fun K hK => ?_) | refine W.block ?_ | (refine W.reg rfl ?_; simp only [go_sem, reduceCtorEq, g0, g1, g7, g8]) | (refine W.regD Try_mo rfl rfl ?_; simp only [go_sem, reduceCtorEq, g0, g1, g7, g8]) | (refine W.skip ?_; simp only [go_sem]) | (refine W.exit ?_; simp only [go_sem]) | (refine W.ret (Post.ret ?_); simp only [go_sem, reduceCtorEq, g0, g1, g7, g8]) | refine W.condT rfl ?_ | refine W.condF rfl ?_ | refine W.cond rfl (fun h => ?_) (fun h => ?_))
              | ((show AX _ _ _ _ _); first | (refine AX.pcall rfl rfl (by simp only [go_sem, unim_im]; rfl) (by solve_by_elim) rfl rfl ?_; simp only [go_sem, reduceCtorEq, g0, g1, g7, g8]) | (refine AX.pcallF rfl rfl (by simp only [go_sem, unim_im]; rfl) (by simp only [go_sem, unim_im]; rfl) (by solve_by_elim) rfl rfl ?_; simp only [go_sem, reduceCtorEq, g0, g1, g7, g8]) | (refine AX.shl rfl rfl rfl rfl (by first | decide | omega) ?_; simp only [go_sem, reduceCtorEq, g0, g1, g7, g8]) | (refine AX.bits rfl rfl rfl (by assumption) rfl ?_; simp only [go_sem, reduceCtorEq, g0, g1, g7, g8]))
              | ((show indepK _ _ _ _ = true ∧ _); refine And.intro (by kernel_rfl) ?_)
              | ((show _ ∧ _); refine And.intro (by first | omega | assumption | (simp only [go_sem]; omega) | (simp; omega) | (simp; done)) ?_)
              | (refine hK _ ?_; clear hK K)
              | (clear hK K; refine hK _ ?_; clear hK K)
              | (clear hK K; clear hK K; refine hK _ ?_; clear hK K)
              | (clear hK K; clear hK K; clear hK K; refine hK _ ?_; clear hK K)
              | fail)
            refine W.ret (PostG.ret (Fits.fit [(0, 0)] [4, 5, 6] 1 rfl rfl Fits.rfl) rfl rfl ?_)
            simp only [St.r, go_sem, if_pos (And.intro hlt hr0), numT]
            rfl
          · have g8 : (((rb s (at_ + 1) neg 0 : Nat) : Int) == 0) = false := by simp [hr0]
            clear hKL hK
            repeat' (first
              | ((show W _ _ _ _); first | (refine W.seq fun K hK => ?_) | refine W.block ?_ | (refine W.reg rfl ?_; simp only [go_sem, reduceCtorEq, g0, g1, g7, g8, g3, g4, g6]) | (refine W.regD Try_mo rfl rfl ?_; simp only [go_sem, reduceCtorEq, g0, g1, g7, g8, g3, g4, g6]) | (refine W.skip ?_; simp only [go_sem]) | (refine W.exit ?_; simp only [go_sem]) | (refine W.ret (Post.ret ?_); simp only [go_sem, reduceCtorEq, g0, g1, g7, g8, g3, g4, g6]) | refine W.condT rfl ?_ | refine W.condF rfl ?_ | refine W.cond rfl (fun h => ?_) (fun h => ?_))
              | ((show AX _ _ _ _ _); first | (refine AX.pcall rfl rfl (by simp only [go_sem, unim_im]; rfl) (by solve_by_elim) rfl rfl ?_; simp only [go_sem, reduceCtorEq, g0, g1, g7, g8, g3, g4, g6]) | (refine AX.pcallF rfl rfl (by simp only [go_sem, unim_im]; rfl) (by simp only [go_sem, unim_im]; rfl) (by solve_by_elim) rfl rfl ?_; simp only [go_sem, reduceCtorEq, g0, g1, g7, g8, g3, g4, g6]) | (refine AX.shl rfl rfl rfl rfl (by first | decide | omega) ?_; simp only [go_sem, reduceCtorEq, g0, g1, g7, g8, g3, g4, g6]) | (refine AX.bits rfl rfl rfl (by assumption) rfl ?_; simp only [go_sem, reduceCtorEq, g0, g1, g7, g8, g3, g4, g6]))
              | ((show indepK _ _ _ _ = true ∧ _); refine And.intro (by kernel_rfl) ?_)
              | ((show _ ∧ _); refine And.intro (by first | omega | assumption | (simp only [go_sem]; omega) | (simp; omega) | (simp; done)) ?_)
              | (refine hK _ ?_; clear hK K)
              | (clear hK K; refine hK _ ?_; clear hK K)
              | (clear hK K; clear hK K; refine hK _ ?_; clear hK K)
              | (clear hK K; clear hK K; clear hK K; refine hK _ ?_; clear hK K)
              | fail)
            exact hend _ (Fits.fit [(0, 0)] [0, 1, 7, 8, 9, 10, 46, 47] 1 rfl rfl Fits.rfl) hr0
        · have g7 : ((i : Int) == 0) = false := by simp; omega
          clear hKL hK
          repeat' (first
            | ((show W _ _ _ _); first | (refine W.seq fun K hK => ?_) | refine W.block ?_ | (refine W.reg rfl ?_; simp only [go_sem, reduceCtorEq, g0, g1, g7, g3, g4, g6]) | (refine W.regD Try_mo rfl rfl ?_; simp only [go_sem, reduceCtorEq, g0, g1, g7, g3, g4, g6]) | (refine W.skip ?_; simp only [go_sem]) | (refine W.exit ?_; simp only [go_sem]) | (refine W.ret (Post.ret ?_); simp only [go_sem, reduceCtorEq, g0, g1, g7, g3, g4, g6]) | refine W.condT rfl ?_ | refine W.condF rfl ?_ | refine W.cond rfl (fun h => ?_) (fun h => ?_))
            | ((show AX _ _ _ _ _); first | (refine AX.pcall rfl rfl (by simp only [go_sem, unim_im]; rfl) (by solve_by_elim) rfl rfl ?_; simp only [go_sem, reduceCtorEq, g0, g1, g7, g3, g4, g6]) | (refine AX.pcallF rfl rfl (by simp only [go_sem, unim_im]; rfl) (by simp only [go_sem, unim_im]; rfl) (by solve_by_elim) rfl rfl ?_; simp only [go_sem, reduceCtorEq, g0, g1, g7, g3, g4, g6]) | (refine AX.shl rfl rfl rfl rfl (by first | decide | omega) ?_; simp only [go_sem, reduceCtorEq, g0, g1, g7, g3, g4, g6]) | (refine AX.bits rfl rfl rfl (by assumption) rfl ?_; simp only [go_sem, reduceCtorEq, g0, g1, g7, g3, g4, g6]))
            | ((show indepK _ _ _ _ = true ∧ _); refine And.intro (by kernel_rfl) ?_)
            | ((show _ ∧ _); refine And.intro (by first | omega | assumption | (simp only [go_sem]; omega) | (simp; omega) | (simp; done)) ?_)
            | (refine hK _ ?_; clear hK K)
            | (clear hK K; refine hK _ ?_; clear hK K)
            | (clear hK K; clear hK K; refine hK _ ?_; clear hK K)
            | (clear hK K; clear hK K; clear hK K; refine hK _ ?_; clear hK K)
            | fail)
          exact hend _ (Fits.fit [(0, 0)] [0, 1, 7, 8, 9, 10, 46, 47] 1 rfl rfl Fits.rfl) (hinv (by omega))
      have g0 : decide ((i : Int) < (sz : Int)) = false := by simp; omega
      obtain rfl : i = sz := by omega
      have hne : ¬ (0 < i ∧ rb s (at_ + 1) neg 0 = 0) := fun h => hinv h.1 h.2
      rw [if_neg hne] at hK ⊢
      have g1 : IntKind.i64.wrap (((at_ + 1 : Nat) : Int) + (i : Int)) = ((at_ + 1 + i : Nat) : Int) := by rw [w64 (by omega) (by omega)]; omega
      obtain ⟨m, hmm⟩ : ∃ m, mag s (at_ + 1) neg i = m := ⟨_, rfl⟩
      rw [hmm] at hK ⊢
      clear hKL
      cases neg
      · by_cases hm : m > 9223372036854775807
        · have g2 : decide ((m : Int) > 9223372036854775807) = true := by simp; omega
          repeat' (first
            | ((show W _ _ _ _); first | (refine W.seq fun K hK => ?_) | refine W.block ?_ | (refine W.reg rfl ?_; simp only [go_sem, reduceCtorEq, g0, g1, g2]) | (refine W.regD Try_mo rfl rfl ?_; simp only [go_sem, reduceCtorEq, g0, g1, g2]) | (refine W.skip ?_; simp only [go_sem]) | (refine W.exit ?_; simp only [go_sem]) | (refine W.ret (Post.ret ?_); simp only [go_sem, reduceCtorEq, g0, g1, g2]) | refine W.condT rfl ?_ | refine W.condF rfl ?_ | refine W.cond rfl (fun h => ?_) (fun h => ?_))
            | ((show AX _ _ _ _ _); first | (refine AX.pcall rfl rfl (by simp only [go_sem, unim_im]; rfl) (by solve_by_elim) rfl rfl ?_; simp only [go_sem, reduceCtorEq, g0, g1, g2]) | (refine AX.pcallF rfl rfl (by simp only [go_sem, unim_im]; rfl) (by simp only [go_sem, unim_im]; rfl) (by solve_by_elim) rfl rfl ?_; simp only [go_sem, reduceCtorEq, g0, g1, g2]) | (refine AX.shl rfl rfl rfl rfl (by first | decide | omega) ?_; simp only [go_sem, reduceCtorEq, g0, g1, g2]) | (refine AX.bits rfl rfl rfl (by assumption) rfl ?_; simp only [go_sem, reduceCtorEq, g0, g1, g2]))
            | ((show indepK _ _ _ _ = true ∧ _); refine And.intro (by kernel_rfl) ?_)
            | ((show _ ∧ _); refine And.intro (by first | omega | assumption | (simp only [go_sem]; omega) | (simp; omega) | (simp; done)) ?_)
            | (refine hK _ ?_; clear hK K)
            | (clear hK K; refine hK _ ?_; clear hK K)
            | (clear hK K; clear hK K; refine hK _ ?_; clear hK K)
            | (clear hK K; clear hK K; clear hK K; refine hK _ ?_; clear hK K)
            | fail)
          refine W.ret (PostG.ret (Fits.fit [(0, 0)] [4, 5, 6] 1 rfl rfl Fits.rfl) rfl rfl ?_)
          simp only [St.r, go_sem, rdEnd, if_pos hm, numT]
          rfl
        · have g2 : decide ((m : Int) > 9223372036854775807) = false := by simp; omega
          have g3 : decide ((m : Int) > 9223372036854775808) = false := by simp; omega
          have g4 : IntKind.i64.wrap (m : Int) = (m : Int) := w64 (by omega) (by omega)
          repeat' (first
            | ((show W _ _ _ _); first | (refine W.seq fun K hK => ?_) | refine W.block ?_ | (refine W.reg rfl ?_; simp only [go_sem, reduceCtorEq, g0, g1, g2, g3, g4]) | (refine W.regD Try_mo rfl rfl ?_; simp only [go_sem, reduceCtorEq, g0, g1, g2, g3, g4]) | (refine W.skip ?_; simp only [go_sem]) | (refine W.exit ?_; simp only [go_sem]) | (refine W.ret (Post.ret ?_); simp only [go_sem, reduceCtorEq, g0, g1, g2, g3, g4]) | refine W.condT rfl ?_ | refine W.condF rfl ?_ | refine W.cond rfl (fun h => ?_) (fun h => ?_))
            | ((show AX _ _ _ _ _); first | (refine AX.pcall rfl rfl (by simp only [go_sem, unim_im]; rfl) (by solve_by_elim) rfl rfl ?_; simp only [go_sem, reduceCtorEq, g0, g1, g2, g3, g4]) | (refine AX.pcallF rfl rfl (by simp only [go_sem, unim_im]; rfl) (by simp only [go_sem, unim_im]; rfl) (by solve_by_elim) rfl rfl ?_; simp only [go_sem, reduceCtorEq, g0, g1, g2, g3, g4]) | (refine AX.shl rfl rfl rfl rfl (by first | decide | omega) ?_; simp only [go_sem, reduceCtorEq, g0, g1, g2, g3, g4]) | (refine AX.bits rfl rfl rfl (by assumption) rfl ?_; simp only [go_sem, reduceCtorEq, g0, g1, g2, g3, g4]))
            | ((show indepK _ _ _ _ = true ∧ _); refine And.intro (by kernel_rfl) ?_)
            | ((show _ ∧ _); refine And.intro (by first | omega | assumption | (simp only [go_sem]; omega) | (simp; omega) | (simp; done)) ?_)
            | (refine hK _ ?_; clear hK K)
            | (clear hK K; refine hK _ ?_; clear hK K)
            | (clear hK K; clear hK K; refine hK _ ?_; clear hK K)
            | (clear hK K; clear hK K; clear hK K; refine hK _ ?_; clear hK K)
            | fail)
          refine W.ret (PostG.ret (Fits.fit [(0, 0)] [4, 5, 6] 1 rfl rfl Fits.rfl) rfl rfl ?_)
          simp only [St.r, go_sem, rdEnd, if_neg hm, numT]
          try rfl
      · by_cases hm : m > 9223372036854775808
        · have g3 : decide ((m : Int) > 9223372036854775808) = true := by simp; omega
          repeat' (first
            | ((show W _ _ _ _); first | (refine W.seq fun K hK => ?_) | refine W.block ?_ | (refine W.reg rfl ?_; simp only [go_sem, reduceCtorEq, g0, g1, g3]) | (refine W.regD Try_mo rfl rfl ?_; simp only [go_sem, reduceCtorEq, g0, g1, g3]) | (refine W.skip ?_; simp only [go_sem]) | (refine W.exit ?_; simp only [go_sem]) | (refine W.ret (Post.ret ?_); simp only [go_sem, reduceCtorEq, g0, g1, g3]) | refine W.condT rfl ?_ | refine W.condF rfl ?_ | refine W.cond rfl (fun h => ?_) (fun h => ?_))
            | ((show AX _ _ _ _ _); first | (refine AX.pcall rfl rfl (by simp only [go_sem, unim_im]; rfl) (by solve_by_elim) rfl rfl ?_; simp only [go_sem, reduceCtorEq, g0, g1, g3]) | (refine AX.pcallF rfl rfl (by simp only [go_sem, unim_im]; rfl) (by simp only [go_sem, unim_im]; rfl) (by solve_by_elim) rfl rfl ?_; simp only [go_sem, reduceCtorEq, g0, g1, g3]) | (refine AX.shl rfl rfl rfl rfl (by first | decide | omega) ?_; simp only [go_sem, reduceCtorEq, g0, g1, g3]) | (refine AX.bits rfl rfl rfl (by assumption) rfl ?_; simp only [go_sem, reduceCtorEq, g0, g1, g3]))
            | ((show indepK _ _ _ _ = true ∧ _); refine And.intro (by kernel_rfl) ?_)
            | ((show _ ∧ _); refine And.intro (by first | omega | assumption | (simp only [go_sem]; omega) | (simp; omega) | (simp; done)) ?_)
            | (refine hK _ ?_; clear hK K)
            | (clear hK K; refine hK _ ?_; clear hK K)
            | (clear hK K; clear hK K; refine hK _ ?_; clear hK K)
            | (clear hK K; clear hK K; clear hK K; refine hK _ ?_; clear hK K)
            | fail)
          refine W.ret (PostG.ret (Fits.fit [(0, 0)] [4, 5, 6] 1 rfl rfl Fits.rfl) rfl rfl ?_)
          simp only [St.r, go_sem, rdEnd, if_pos hm, numT]
          rfl
        · have g3 : decide ((m : Int) > 9223372036854775808) = false := by simp; omega
          repeat' (first
            | ((show W _ _ _ _); first | (refine W.seq fun K hK => ?_) | refine W.block ?_ | (refine W.reg rfl ?_; simp only [go_sem, reduceCtorEq, g0, g1, g3]) | (refine W.regD Try_mo rfl rfl ?_; simp only [go_sem, reduceCtorEq, g0, g1, g3]) | (refine W.skip ?_; simp only [go_sem]) | (refine W.exit ?_; simp only [go_sem]) | (refine W.ret (Post.ret ?_); simp only [go_sem, reduceCtorEq, g0, g1, g3]) | refine W.condT rfl ?_ | refine W.condF rfl ?_ | refine W.cond rfl (fun h => ?_) (fun h => ?_))
            | ((show AX _ _ _ _ _); first | (refine AX.pcall rfl rfl (by simp only [go_sem, unim_im]; rfl) (by solve_by_elim) rfl rfl ?_; simp only [go_sem, reduceCtorEq, g0, g1, g3]) | (refine AX.pcallF rfl rfl (by simp only [go_sem, unim_im]; rfl) (by simp only [go_sem, unim_im]; rfl) (by solve_by_elim) rfl rfl ?_; simp only [go_sem, reduceCtorEq, g0, g1, g3]) | (refine AX.shl rfl rfl rfl rfl (by first | decide | omega) ?_; simp only [go_sem, reduceCtorEq, g0, g1, g3]) | (refine AX.bits rfl rfl rfl (by assumption) rfl ?_; simp only [go_sem, reduceCtorEq, g0, g1, g3]))
            | ((show indepK _ _ _ _ = true ∧ _); refine And.intro (by kernel_rfl) ?_)
            | ((show _ ∧ _); refine And.intro (by first | omega | assumption | (simp only [go_sem]; omega) | (simp; omega) | (simp; done)) ?_)
            | (refine hK _ ?_; clear hK K)
            | (clear hK K; refine hK _ ?_; clear hK K)
            | (clear hK K; clear hK K; refine hK _ ?_; clear hK K)
            | (clear hK K; clear hK K; clear hK K; refine hK _ ?_; clear hK K)
            | fail)
          refine W.ret (PostG.ret (Fits.fit [(0, 0)] [4, 5, 6] 1 rfl rfl Fits.rfl) rfl rfl ?_)
          simp only [St.r, go_sem, rdEnd, if_neg hm, numT]
          try rfl
    cases neg
    · repeat' (first
        | ((show W _ _ _ _); first | (refine W.seq fun K hK => ?_) | refine W.block ?_ | (refine W.reg rfl ?_; simp only [go_sem, reduceCtorEq]) | (refine W.regD Try_mo rfl rfl ?_; simp only [go_sem, reduceCtorEq]) | (refine W.skip ?_; simp only [go_sem]) | (refine W.exit ?_; simp only [go_sem]) | (refine W.ret (Post.ret ?_); simp only [go_sem, reduceCtorEq]) | refine W.condT rfl ?_ | refine W.condF rfl ?_ | refine W.cond rfl (fun h => ?_) (fun h => ?_))
        | ((show AX _ _ _ _ _); first | (refine AX.pcall rfl rfl (by simp only [go_sem, unim_im]; rfl) (by solve_by_elim) rfl rfl ?_; simp only [go_sem, reduceCtorEq]) | (refine AX.pcallF rfl rfl (by simp only [go_sem, unim_im]; rfl) (by simp only [go_sem, unim_im]; rfl) (by solve_by_elim) rfl rfl ?_; simp only [go_sem, reduceCtorEq]) | (refine AX.shl rfl rfl rfl rfl (by first | decide | omega) ?_; simp only [go_sem, reduceCtorEq]) | (refine AX.bits rfl rfl rfl (by assumption) rfl ?_; simp only [go_sem, reduceCtorEq]))
        | ((show indepK _ _ _ _ = true ∧ _); refine And.intro (by kernel_rfl) ?_)
        | ((show _ ∧ _); refine And.intro (by first | omega | assumption | (simp only [go_sem]; omega) | (simp; omega) | (simp; done)) ?_)
        | (refine hK _ ?_; clear hK K)
        | (clear hK K; refine hK _ ?_; clear hK K)
        | (clear hK K; clear hK K; refine hK _ ?_; clear hK K)
        | (clear hK K; clear hK K; clear hK K; refine hK _ ?_; clear hK K)
        | fail)
      exact main _ (Fits.fit [(0, 0)] [0, 1, 7, 8, 9] 1 rfl rfl Fits.rfl)
    · repeat' (first
        | ((show W _ _ _ _); first | (refine W.seq fun K hK => ?_) | refine W.block ?_ | (refine W.reg rfl ?_; simp only [go_sem, reduceCtorEq]) | (refine W.regD Try_mo rfl rfl ?_; simp only [go_sem, reduceCtorEq]) | (refine W.skip ?_; simp only [go_sem]) | (refine W.exit ?_; simp only [go_sem]) | (refine W.ret (Post.ret ?_); simp only [go_sem, reduceCtorEq]) | refine W.condT rfl ?_ | refine W.condF rfl ?_ | refine W.cond rfl (fun h => ?_) (fun h => ?_))
        | ((show AX _ _ _ _ _); first | (refine AX.pcall rfl rfl (by simp only [go_sem, unim_im]; rfl) (by solve_by_elim) rfl rfl ?_; simp only [go_sem, reduceCtorEq]) | (refine AX.pcallF rfl rfl (by simp only [go_sem, unim_im]; rfl) (by simp only [go_sem, unim_im]; rfl) (by solve_by_elim) rfl rfl ?_; simp only [go_sem, reduceCtorEq]) | (refine AX.shl rfl rfl rfl rfl (by first | decide | omega) ?_; simp only [go_sem, reduceCtorEq]) | (refine AX.bits rfl rfl rfl (by assumption) rfl ?_; simp only [go_sem, reduceCtorEq]))
        | ((show indepK _ _ _ _ = true ∧ _); refine And.intro (by kernel_rfl) ?_)
        | ((show _ ∧ _); refine And.intro (by first | omega | assumption | (simp only [go_sem]; omega) | (simp; omega) | (simp; done)) ?_)
        | (refine hK _ ?_; clear hK K)
        | (clear hK K; refine hK _ ?_; clear hK K)
        | (clear hK K; clear hK K; refine hK _ ?_; clear hK K)
        | (clear hK K; clear hK K; clear hK K; refine hK _ ?_; clear hK K)
        | fail)
      exact main _ (Fits.fit [(0, 0)] [0, 1, 7, 8, 9] 1 rfl rfl Fits.rfl)
  by_cases hneg : byteAt s at_ < 128
  · have g1 : decide ((byteAt s at_ : Int) - 128 < 0) = true := by simp; omega
    have g2 : IntKind.i64.wrap (0 - ((byteAt s at_ : Int) - 128)) = ((128 - byteAt s at_ : Nat) : Int) := by rw [w64 (by omega) (by omega)]; omega
    rw [g1]
    repeat' (first
      | ((show W _ _ _ _); first | (refine W.seq fun K hK => ?_) | refine W.block ?_ | (refine W.reg rfl ?_; simp only [go_sem, reduceCtorEq, g2]) | (refine W.regD Try_mo rfl rfl ?_; simp only [go_sem, reduceCtorEq, g2]) | (refine W.skip ?_; simp only [go_sem]) | (refine W.exit ?_; simp only [go_sem]) | (refine W.ret (Post.ret ?_); simp only [go_sem, reduceCtorEq, g2]) | refine W.condT rfl ?_ | refine W.condF rfl ?_ | refine W.cond rfl (fun h => ?_) (fun h => ?_))
      | ((show AX _ _ _ _ _); first | (refine AX.pcall rfl rfl (by simp only [go_sem, unim_im]; rfl) (by solve_by_elim) rfl rfl ?_; simp only [go_sem, reduceCtorEq, g2]) | (refine AX.pcallF rfl rfl (by simp only [go_sem, unim_im]; rfl) (by simp only [go_sem, unim_im]; rfl) (by solve_by_elim) rfl rfl ?_; simp only [go_sem, reduceCtorEq, g2]) | (refine AX.shl rfl rfl rfl rfl (by first | decide | omega) ?_; simp only [go_sem, reduceCtorEq, g2]) | (refine AX.bits rfl rfl rfl (by assumption) rfl ?_; simp only [go_sem, reduceCtorEq, g2]))
      | ((show indepK _ _ _ _ = true ∧ _); refine And.intro (by kernel_rfl) ?_)
      | ((show _ ∧ _); refine And.intro (by first | omega | assumption | (simp only [go_sem]; omega) | (simp; omega) | (simp; done)) ?_)
      | (refine hK _ ?_; clear hK K)
      | (clear hK K; refine hK _ ?_; clear hK K)
      | (clear hK K; clear hK K; refine hK _ ?_; clear hK K)
      | (clear hK K; clear hK K; clear hK K; refine hK _ ?_; clear hK K)
      | fail)
    exact main true (128 - byteAt s at_) (by rw [rdSize, if_pos hneg]) (by simp [hneg]) _ (Fits.fit [(0, 0)] [0, 1, 7, 8] 1 rfl rfl Fits.rfl)
  · have g1 : decide ((byteAt s at_ : Int) - 128 < 0) = false := by simp; omega
    have g2 : (byteAt s at_ : Int) - 128 = ((byteAt s at_ - 128 : Nat) : Int) := by omega
    rw [g1, g2]
    repeat' (first
      | ((show W _ _ _ _); first | (refine W.seq fun K hK => ?_) | refine W.block ?_ | (refine W.reg rfl ?_; simp only [go_sem, reduceCtorEq]) | (refine W.regD Try_mo rfl rfl ?_; simp only [go_sem, reduceCtorEq]) | (refine W.skip ?_; simp only [go_sem]) | (refine W.exit ?_; simp only [go_sem]) | (refine W.ret (Post.ret ?_); simp only [go_sem, reduceCtorEq]) | refine W.condT rfl ?_ | refine W.condF rfl ?_ | refine W.cond rfl (fun h => ?_) (fun h => ?_))
      | ((show AX _ _ _ _ _); first | (refine AX.pcall rfl rfl (by simp only [go_sem, unim_im]; rfl) (by solve_by_elim) rfl rfl ?_; simp only [go_sem, reduceCtorEq]) | (refine AX.pcallF rfl rfl (by simp only [go_sem, unim_im]; rfl) (by simp only [go_sem, unim_im]; rfl) (by solve_by_elim) rfl rfl ?_; simp only [go_sem, reduceCtorEq]) | (refine AX.shl rfl rfl rfl rfl (by first | decide | omega) ?_; simp only [go_sem, reduceCtorEq]) | (refine AX.bits rfl rfl rfl (by assumption) rfl ?_; simp only [go_sem, reduceCtorEq]))
      | ((show indepK _ _ _ _ = true ∧ _); refine And.intro (by kernel_rfl) ?_)
      | ((show _ ∧ _); refine And.intro (by first | omega | assumption | (simp only [go_sem]; omega) | (simp; omega) | (simp; done)) ?_)
      | (refine hK _ ?_; clear hK K)
      | (clear hK K; refine hK _ ?_; clear hK K)
      | (clear hK K; clear hK K; refine hK _ ?_; clear hK K)
      | (clear hK K; clear hK K; clear hK K; refine hK _ ?_; clear hK K)
      | fail)
    exact main false (byteAt s at_ - 128) (by rw [rdSize, if_neg hneg]) (by simp [hneg]) _ (Fits.fit [(0, 0)] [0, 1, 7, 8] 1 rfl rfl Fits.rfl)
end Go.Proofs.Ytegcmciglakicaa
namespace Go.Proofs.Ytegcmciglakicaa
open Go.RowKit Go.Exe
set_option linter.unusedVariables false
set_option linter.unusedSimpArgs false
set_option maxHeartbeats 1000000
set_option maxRecDepth 100000
attribute [local irreducible] W AX Run RunD AStep AOp AOpX AStB AStH AStG Fits PCall GCall PostG Post Stop

theorem rdEnd_ok {m : Nat} {neg : Bool} {next : Nat} : (rdEnd m neg next).2.1 ≤ next ∧ -9223372036854775808 ≤ (rdEnd m neg next).1 ∧ (rdEnd m neg next).1 < 9223372036854775808 ∧ 0 ≤ (rdEnd m neg next).2.2 ∧ (rdEnd m neg next).2.2 ≤ 4 := by
  have : ∀ n : Int, -9223372036854775808 ≤ IntKind.i64.wrap n ∧ IntKind.i64.wrap n < 9223372036854775808 := fun n => by rw [IntKind.wrap_i64]; omega
  unfold rdEnd
  split
  · split
    · simp only; omega
    · have := this (IntKind.u64.wrap (0 - (m : Int))); simp only; omega
  · split
    · simp only; omega
    · simp only; omega
theorem rdNum_ok (s : ByteArray) (a : Nat) : (rdNum s a).2.1 ≤ s.size ∧ -9223372036854775808 ≤ (rdNum s a).1 ∧ (rdNum s a).1 < 9223372036854775808 ∧ 0 ≤ (rdNum s a).2.2 ∧ (rdNum s a).2.2 ≤ 4 := by
  unfold rdNum
  split
  · simp only; omega
  · split
    · simp only; omega
    · unfold rdMag
      split
      · simp only; omega
      · split
        · simp only; omega
        · rename_i h1 _ h2 _
          have := @rdEnd_ok (mag s (a + 1) (decide (byteAt s a < 128)) (rdSize (byteAt s a))) (decide (byteAt s a < 128)) (a + 1 + rdSize (byteAt s a))
          omega
/-- The error of a number of bytes or elements. -/
def rdErr (s : ByteArray) (a : Nat) (more : Int) : Int :=
  if (rdNum s a).2.2 ≠ 0 then (rdNum s a).2.2 else if (rdNum s a).1 < 0 then 3 else if (rdNum s a).1 > 4096 then more else if (s.size : Int) - (rdNum s a).2.1 < (rdNum s a).1 then 4 else 0
def rdCnt (s : ByteArray) (a : Nat) : Nat := (rdNum s a).1.toNat
def rdNxt (s : ByteArray) (a : Nat) : Nat := (rdNum s a).2.1
theorem ok_r (s : ByteArray) (a : Nat) (e : Int) : GCall Try.prog 60 1 (St.g [.c (.ptr 0 0)] [(0, rdB s a e)] 1) (St.r (ft (.bool (e == 0))) [(0, rdB s a e)] 1) := by
  simp only [rdB]
  refine GCall.introG (nt := 12) (rs := [.tmp 2]) Try.func60 rfl ⟨by kernel_rfl, by kernel_rfl, by kernel_rfl⟩ (by simp) ?_
  rintro ⟨P, w0, ok0, may, np, pblk⟩ rfl rfl
  simp only [go_sem]
  repeat' (first
    | ((show W _ _ _ _); first | (refine W.seq fun K hK => ?_) | refine W.block ?_ | (refine W.reg rfl ?_; simp only [go_sem, reduceCtorEq]) | (refine W.regD Try_mo rfl rfl ?_; simp only [go_sem, reduceCtorEq]) | (refine W.skip ?_; simp only [go_sem]) | (refine W.exit ?_; simp only [go_sem]) | (refine W.ret (Post.ret ?_); simp only [go_sem, reduceCtorEq]) | refine W.condT rfl ?_ | refine W.condF rfl ?_ | refine W.cond rfl (fun h => ?_) (fun h => ?_))
    | ((show AX _ _ _ _ _); first | (refine AX.pcall rfl rfl (by simp only [go_sem, unim_im]; rfl) (by solve_by_elim) rfl rfl ?_; simp only [go_sem, reduceCtorEq]) | (refine AX.pcallF rfl rfl (by simp only [go_sem, unim_im]; rfl) (by simp only [go_sem, unim_im]; rfl) (by solve_by_elim) rfl rfl ?_; simp only [go_sem, reduceCtorEq]))
    | ((show indepK _ _ _ _ = true ∧ _); refine And.intro (by kernel_rfl) ?_)
    | ((show _ ∧ _); refine And.intro (by first | omega | assumption | (simp only [go_sem]; omega) | (simp; omega) | (simp; done)) ?_)
    | (refine hK _ ?_; clear hK K)
    | (clear hK K; refine hK _ ?_; clear hK K)
    | (clear hK K; clear hK K; refine hK _ ?_; clear hK K)
    | (clear hK K; clear hK K; clear hK K; refine hK _ ?_; clear hK K)
    | fail)
  refine W.ret (PostG.ret (Fits.fit [(0, 0)] [2] 1 rfl rfl Fits.rfl) rfl rfl ?_)
  simp only [St.r, go_sem]
theorem fail_r (s : ByteArray) (a : Nat) (e : Int) : GCall Try.prog 75 1 (St.g [.c (.ptr 0 0), ft (.int .i64 e)] [(0, rdB s a 0)] 1) (St.r (.t []) [(0, rdB s a e)] 1) := by
  simp only [rdB]
  refine GCall.introG (nt := 13) (rs := []) Try.func75 rfl ⟨by kernel_rfl, by kernel_rfl, by kernel_rfl⟩ (by simp) ?_
  rintro ⟨P, w0, ok0, may, np, pblk⟩ rfl rfl
  simp only [go_sem]
  have e1 : ((0 : Int) == 0) = true := rfl
  repeat' (first
    | ((show W _ _ _ _); first | (refine W.seq fun K hK => ?_) | refine W.block ?_ | (refine W.reg rfl ?_; simp only [go_sem, reduceCtorEq, e1]) | (refine W.regD Try_mo rfl rfl ?_; simp only [go_sem, reduceCtorEq, e1]) | (refine W.skip ?_; simp only [go_sem]) | (refine W.exit ?_; simp only [go_sem]) | (refine W.ret (Post.ret ?_); simp only [go_sem, reduceCtorEq, e1]) | refine W.condT rfl ?_ | refine W.condF rfl ?_ | refine W.cond rfl (fun h => ?_) (fun h => ?_))
    | ((show AX _ _ _ _ _); first | (refine AX.pcall rfl rfl (by simp only [go_sem, unim_im]; rfl) (by solve_by_elim) rfl rfl ?_; simp only [go_sem, reduceCtorEq, e1]) | (refine AX.pcallF rfl rfl (by simp only [go_sem, unim_im]; rfl) (by simp only [go_sem, unim_im]; rfl) (by solve_by_elim) rfl rfl ?_; simp only [go_sem, reduceCtorEq, e1]))
    | ((show indepK _ _ _ _ = true ∧ _); refine And.intro (by kernel_rfl) ?_)
    | ((show _ ∧ _); refine And.intro (by first | omega | assumption | (simp only [go_sem]; omega) | (simp; omega) | (simp; done)) ?_)
    | (refine hK _ ?_; clear hK K)
    | (clear hK K; refine hK _ ?_; clear hK K)
    | (clear hK K; clear hK K; refine hK _ ?_; clear hK K)
    | (clear hK K; clear hK K; clear hK K; refine hK _ ?_; clear hK K)
    | fail)
  refine PostG.normal (Fits.fit [(0, 0)] [] 1 rfl rfl Fits.rfl) rfl rfl ?_
  simp only [St.r, go_sem]
theorem err_r (s : ByteArray) (a : Nat) (e : Int) : GCall Try.prog 47 1 (St.g [.c (.ptr 0 0)] [(0, rdB s a e)] 1) (St.r (ft (.int .i64 e)) [(0, rdB s a e)] 1) := by
  simp only [rdB]
  refine GCall.introG (nt := 9) (rs := [.tmp 2]) Try.func47 rfl ⟨by kernel_rfl, by kernel_rfl, by kernel_rfl⟩ (by simp) ?_
  rintro ⟨P, w0, ok0, may, np, pblk⟩ rfl rfl
  simp only [go_sem]
  repeat' (first
    | ((show W _ _ _ _); first | (refine W.seq fun K hK => ?_) | refine W.block ?_ | (refine W.reg rfl ?_; simp only [go_sem, reduceCtorEq]) | (refine W.regD Try_mo rfl rfl ?_; simp only [go_sem, reduceCtorEq]) | (refine W.skip ?_; simp only [go_sem]) | (refine W.exit ?_; simp only [go_sem]) | (refine W.ret (Post.ret ?_); simp only [go_sem, reduceCtorEq]) | refine W.condT rfl ?_ | refine W.condF rfl ?_ | refine W.cond rfl (fun h => ?_) (fun h => ?_))
    | ((show AX _ _ _ _ _); first | (refine AX.pcall rfl rfl (by simp only [go_sem, unim_im]; rfl) (by solve_by_elim) rfl rfl ?_; simp only [go_sem, reduceCtorEq]) | (refine AX.pcallF rfl rfl (by simp only [go_sem, unim_im]; rfl) (by simp only [go_sem, unim_im]; rfl) (by solve_by_elim) rfl rfl ?_; simp only [go_sem, reduceCtorEq]))
    | ((show indepK _ _ _ _ = true ∧ _); refine And.intro (by kernel_rfl) ?_)
    | ((show _ ∧ _); refine And.intro (by first | omega | assumption | (simp only [go_sem]; omega) | (simp; omega) | (simp; done)) ?_)
    | (refine hK _ ?_; clear hK K)
    | (clear hK K; refine hK _ ?_; clear hK K)
    | (clear hK K; clear hK K; refine hK _ ?_; clear hK K)
    | (clear hK K; clear hK K; clear hK K; refine hK _ ?_; clear hK K)
    | fail)
  refine W.ret (PostG.ret (Fits.fit [(0, 0)] [2] 1 rfl rfl Fits.rfl) rfl rfl ?_)
  simp only [St.r, go_sem]
theorem left_r (s : ByteArray) (a : Nat) (e : Int) (hs : s.size ≤ 140737488355328) (ha : a ≤ 140737488355328) : GCall Try.prog 31 1 (St.g [.c (.ptr 0 0)] [(0, rdB s a e)] 1) (St.r (ft (.int .i64 ((s.size : Int) - a))) [(0, rdB s a e)] 1) := by
  have e1 : IntKind.i64.wrap ((s.size : Int) - (a : Int)) = (s.size : Int) - a := w64 (by omega) (by omega)
  simp only [rdB]
  refine GCall.introG (nt := 15) (rs := [.tmp 2]) Try.func31 rfl ⟨by kernel_rfl, by kernel_rfl, by kernel_rfl⟩ (by simp) ?_
  rintro ⟨P, w0, ok0, may, np, pblk⟩ rfl rfl
  simp only [go_sem]
  repeat' (first
    | ((show W _ _ _ _); first | (refine W.seq fun K hK => ?_) | refine W.block ?_ | (refine W.reg rfl ?_; simp only [go_sem, reduceCtorEq, e1]) | (refine W.regD Try_mo rfl rfl ?_; simp only [go_sem, reduceCtorEq, e1]) | (refine W.skip ?_; simp only [go_sem]) | (refine W.exit ?_; simp only [go_sem]) | (refine W.ret (Post.ret ?_); simp only [go_sem, reduceCtorEq, e1]) | refine W.condT rfl ?_ | refine W.condF rfl ?_ | refine W.cond rfl (fun h => ?_) (fun h => ?_))
    | ((show AX _ _ _ _ _); first | (refine AX.pcall rfl rfl (by simp only [go_sem, unim_im]; rfl) (by solve_by_elim) rfl rfl ?_; simp only [go_sem, reduceCtorEq, e1]) | (refine AX.pcallF rfl rfl (by simp only [go_sem, unim_im]; rfl) (by simp only [go_sem, unim_im]; rfl) (by solve_by_elim) rfl rfl ?_; simp only [go_sem, reduceCtorEq, e1]))
    | ((show indepK _ _ _ _ = true ∧ _); refine And.intro (by kernel_rfl) ?_)
    | ((show _ ∧ _); refine And.intro (by first | omega | assumption | (simp only [go_sem]; omega) | (simp; omega) | (simp; done)) ?_)
    | (refine hK _ ?_; clear hK K)
    | (clear hK K; refine hK _ ?_; clear hK K)
    | (clear hK K; clear hK K; refine hK _ ?_; clear hK K)
    | (clear hK K; clear hK K; clear hK K; refine hK _ ?_; clear hK K)
    | fail)
  refine W.ret (PostG.ret (Fits.fit [(0, 0)] [2] 1 rfl rfl Fits.rfl) rfl rfl ?_)
  simp only [St.r, go_sem]
theorem newReader_r (s : ByteArray) : GCall Try.prog 29 0 (St.g [ft (.string s)] [] 0) (St.r (.c (.ptr 0 0)) [(0, rdB s 0 0)] 1) := by
  simp only [rdB]
  refine GCall.introG (nt := 6) (rs := [.tmp 2]) Try.func29 rfl ⟨by kernel_rfl, by kernel_rfl, by kernel_rfl⟩ (by simp) ?_
  rintro ⟨P, w0, ok0, may, np, pblk⟩ rfl rfl
  simp only [go_sem]
  repeat' (first
    | ((show W _ _ _ _); first | (refine W.seq fun K hK => ?_) | refine W.block ?_ | (refine W.reg rfl ?_; simp only [go_sem, reduceCtorEq]) | (refine W.regD Try_mo rfl rfl ?_; simp only [go_sem, reduceCtorEq]) | (refine W.skip ?_; simp only [go_sem]) | (refine W.exit ?_; simp only [go_sem]) | (refine W.ret (Post.ret ?_); simp only [go_sem, reduceCtorEq]) | refine W.condT rfl ?_ | refine W.condF rfl ?_ | refine W.cond rfl (fun h => ?_) (fun h => ?_))
    | ((show AX _ _ _ _ _); first | (refine AX.pcall rfl rfl (by simp only [go_sem, unim_im]; rfl) (by solve_by_elim) rfl rfl ?_; simp only [go_sem, reduceCtorEq]) | (refine AX.pcallF rfl rfl (by simp only [go_sem, unim_im]; rfl) (by simp only [go_sem, unim_im]; rfl) (by solve_by_elim) rfl rfl ?_; simp only [go_sem, reduceCtorEq]))
    | ((show indepK _ _ _ _ = true ∧ _); refine And.intro (by kernel_rfl) ?_)
    | ((show _ ∧ _); refine And.intro (by first | omega | assumption | (simp only [go_sem]; omega) | (simp; omega) | (simp; done)) ?_)
    | (refine hK _ ?_; clear hK K)
    | (clear hK K; refine hK _ ?_; clear hK K)
    | (clear hK K; clear hK K; refine hK _ ?_; clear hK K)
    | (clear hK K; clear hK K; clear hK K; refine hK _ ?_; clear hK K)
    | fail)
  refine W.ret (PostG.ret (Fits.fit [(3, 0)] [2] 1 rfl rfl Fits.rfl) rfl rfl ?_)
  simp only [St.r, go_sem]
  rfl
def szT (n : Int) (next : Nat) (ok : Bool) : TV := .t [(false, [fl (.int .i64 n)]), (false, [fl (.int .i64 (next : Nat))]), (false, [fl (.bool ok)])]
theorem size_r (s : ByteArray) (a : Nat) (more : Int) (hs : s.size ≤ 140737488355328) (ha : a ≤ 140737488355328) (hm : more ≠ 0) :
    GCall Try.prog 61 1 (St.g [.c (.ptr 0 0), ft (.int .i64 4096), ft (.int .i64 more)] [(0, rdB s a 0)] 1)
      (St.r (if rdErr s a more = 0 then szT (rdCnt s a) (rdNxt s a) true else szT 0 0 false) [(0, rdB s a (rdErr s a more))] 1) := by
  have hc := number_r s a a 0 hs ha
  have hk := rdNum_ok s a
  unfold rdErr rdCnt rdNxt
  simp only [rdB, numT] at *
  generalize rdNum s a = x at *
  obtain ⟨n, next, e⟩ := x
  simp only at hc hk ⊢
  have f1 : IntKind.i64.wrap ((s.size : Int) - (next : Int)) = (s.size : Int) - next := w64 (by omega) (by omega)
  have hf := fun e => fail_r s a e
  simp only [rdB] at hf
  refine GCall.introG (nt := 48) (rs := [.tmp 6, .tmp 7, .tmp 8]) Try.func61 rfl ⟨by kernel_rfl, by kernel_rfl, by kernel_rfl⟩ (by simp) ?_
  rintro ⟨P, w0, ok0, may, np, pblk⟩ rfl rfl
  simp only [go_sem]
  repeat' (first
    | ((show W _ _ _ _); first | (refine W.seq fun K hK => ?_) | refine W.block ?_ | (refine W.reg rfl ?_; simp only [go_sem, reduceCtorEq]) | (refine W.regD Try_mo rfl rfl ?_; simp only [go_sem, reduceCtorEq]) | (refine W.skip ?_; simp only [go_sem]) | (refine W.exit ?_; simp only [go_sem]) | (refine W.ret (Post.ret ?_); simp only [go_sem, reduceCtorEq]) | refine W.condT rfl ?_ | refine W.condF rfl ?_ | refine W.cond rfl (fun h => ?_) (fun h => ?_))
    | ((show AX _ _ _ _ _); first | (refine AX.pcall rfl rfl (by simp only [go_sem, unim_im]; rfl) (by solve_by_elim) rfl rfl ?_; simp only [go_sem, reduceCtorEq]) | (refine AX.pcallF rfl rfl (by simp only [go_sem, unim_im]; rfl) (by simp only [go_sem, unim_im]; rfl) (by solve_by_elim) rfl rfl ?_; simp only [go_sem, reduceCtorEq]))
    | ((show indepK _ _ _ _ = true ∧ _); refine And.intro (by kernel_rfl) ?_)
    | ((show _ ∧ _); refine And.intro (by first | omega | assumption | (simp only [go_sem]; omega) | (simp; omega) | (simp; done)) ?_)
    | (refine hK _ ?_; clear hK K)
    | (clear hK K; refine hK _ ?_; clear hK K)
    | (clear hK K; clear hK K; refine hK _ ?_; clear hK K)
    | (clear hK K; clear hK K; clear hK K; refine hK _ ?_; clear hK K)
    | fail)
  refine AX.gcall [0] rfl rfl (hc) (by simp only [go_sem, reduceCtorEq]) (by simp only [go_sem, reduceCtorEq]) rfl rfl (by simp only [go_sem, Obj.owns]) rfl (by simp only [go_sem, Obj.owns]) rfl rfl ?_
  simp only [go_sem, reduceCtorEq]
  by_cases h1 : e = 0
  rotate_left
  · have e1 : (e != 0) = true := by simp [h1]
    repeat' (first
      | ((show W _ _ _ _); first | (refine W.seq fun K hK => ?_) | refine W.block ?_ | (refine W.reg rfl ?_; simp only [go_sem, reduceCtorEq, e1]) | (refine W.regD Try_mo rfl rfl ?_; simp only [go_sem, reduceCtorEq, e1]) | (refine W.skip ?_; simp only [go_sem]) | (refine W.exit ?_; simp only [go_sem]) | (refine W.ret (Post.ret ?_); simp only [go_sem, reduceCtorEq, e1]) | refine W.condT rfl ?_ | refine W.condF rfl ?_ | refine W.cond rfl (fun h => ?_) (fun h => ?_))
      | ((show AX _ _ _ _ _); first | (refine AX.pcall rfl rfl (by simp only [go_sem, unim_im]; rfl) (by solve_by_elim) rfl rfl ?_; simp only [go_sem, reduceCtorEq, e1]) | (refine AX.pcallF rfl rfl (by simp only [go_sem, unim_im]; rfl) (by simp only [go_sem, unim_im]; rfl) (by solve_by_elim) rfl rfl ?_; simp only [go_sem, reduceCtorEq, e1]))
      | ((show indepK _ _ _ _ = true ∧ _); refine And.intro (by kernel_rfl) ?_)
      | ((show _ ∧ _); refine And.intro (by first | omega | assumption | (simp only [go_sem]; omega) | (simp; omega) | (simp; done)) ?_)
      | (refine hK _ ?_; clear hK K)
      | (clear hK K; refine hK _ ?_; clear hK K)
      | (clear hK K; clear hK K; refine hK _ ?_; clear hK K)
      | (clear hK K; clear hK K; clear hK K; refine hK _ ?_; clear hK K)
      | fail)
    refine AX.gcall [0] rfl rfl (hf e) (by simp only [go_sem, reduceCtorEq]) (by simp only [go_sem, reduceCtorEq]) rfl rfl (by simp only [go_sem, Obj.owns]) rfl (by simp only [go_sem, Obj.owns]) rfl rfl ?_
    simp only [go_sem, reduceCtorEq]
    repeat' (first
      | ((show W _ _ _ _); first | (refine W.seq fun K hK => ?_) | refine W.block ?_ | (refine W.reg rfl ?_; simp only [go_sem, reduceCtorEq]) | (refine W.regD Try_mo rfl rfl ?_; simp only [go_sem, reduceCtorEq]) | (refine W.skip ?_; simp only [go_sem]) | (refine W.exit ?_; simp only [go_sem]) | (refine W.ret (Post.ret ?_); simp only [go_sem, reduceCtorEq]) | refine W.condT rfl ?_ | refine W.condF rfl ?_ | refine W.cond rfl (fun h => ?_) (fun h => ?_))
      | ((show AX _ _ _ _ _); first | (refine AX.pcall rfl rfl (by simp only [go_sem, unim_im]; rfl) (by solve_by_elim) rfl rfl ?_; simp only [go_sem, reduceCtorEq]) | (refine AX.pcallF rfl rfl (by simp only [go_sem, unim_im]; rfl) (by simp only [go_sem, unim_im]; rfl) (by solve_by_elim) rfl rfl ?_; simp only [go_sem, reduceCtorEq]))
      | ((show indepK _ _ _ _ = true ∧ _); refine And.intro (by kernel_rfl) ?_)
      | ((show _ ∧ _); refine And.intro (by first | omega | assumption | (simp only [go_sem]; omega) | (simp; omega) | (simp; done)) ?_)
      | (refine hK _ ?_; clear hK K)
      | (clear hK K; refine hK _ ?_; clear hK K)
      | (clear hK K; clear hK K; refine hK _ ?_; clear hK K)
      | (clear hK K; clear hK K; clear hK K; refine hK _ ?_; clear hK K)
      | fail)
    refine W.ret (PostG.ret (Fits.fit [(0, 0)] [6, 7, 8] 1 rfl rfl Fits.rfl) rfl rfl ?_)
    simp only [St.r, go_sem, if_pos h1, if_neg h1, szT]
    rfl
  have e1 : (e != 0) = false := by simp [h1]
  by_cases h2 : n < 0
  · have e2 : decide (n < 0) = true := by simp [h2]
    repeat' (first
      | ((show W _ _ _ _); first | (refine W.seq fun K hK => ?_) | refine W.block ?_ | (refine W.reg rfl ?_; simp only [go_sem, reduceCtorEq, e1, e2]) | (refine W.regD Try_mo rfl rfl ?_; simp only [go_sem, reduceCtorEq, e1, e2]) | (refine W.skip ?_; simp only [go_sem]) | (refine W.exit ?_; simp only [go_sem]) | (refine W.ret (Post.ret ?_); simp only [go_sem, reduceCtorEq, e1, e2]) | refine W.condT rfl ?_ | refine W.condF rfl ?_ | refine W.cond rfl (fun h => ?_) (fun h => ?_))
      | ((show AX _ _ _ _ _); first | (refine AX.pcall rfl rfl (by simp only [go_sem, unim_im]; rfl) (by solve_by_elim) rfl rfl ?_; simp only [go_sem, reduceCtorEq, e1, e2]) | (refine AX.pcallF rfl rfl (by simp only [go_sem, unim_im]; rfl) (by simp only [go_sem, unim_im]; rfl) (by solve_by_elim) rfl rfl ?_; simp only [go_sem, reduceCtorEq, e1, e2]))
      | ((show indepK _ _ _ _ = true ∧ _); refine And.intro (by kernel_rfl) ?_)
      | ((show _ ∧ _); refine And.intro (by first | omega | assumption | (simp only [go_sem]; omega) | (simp; omega) | (simp; done)) ?_)
      | (refine hK _ ?_; clear hK K)
      | (clear hK K; refine hK _ ?_; clear hK K)
      | (clear hK K; clear hK K; refine hK _ ?_; clear hK K)
      | (clear hK K; clear hK K; clear hK K; refine hK _ ?_; clear hK K)
      | fail)
    refine AX.gcall [0] rfl rfl (hf 3) (by simp only [go_sem, reduceCtorEq]) (by simp only [go_sem, reduceCtorEq]) rfl rfl (by simp only [go_sem, Obj.owns]) rfl (by simp only [go_sem, Obj.owns]) rfl rfl ?_
    simp only [go_sem, reduceCtorEq]
    repeat' (first
      | ((show W _ _ _ _); first | (refine W.seq fun K hK => ?_) | refine W.block ?_ | (refine W.reg rfl ?_; simp only [go_sem, reduceCtorEq]) | (refine W.regD Try_mo rfl rfl ?_; simp only [go_sem, reduceCtorEq]) | (refine W.skip ?_; simp only [go_sem]) | (refine W.exit ?_; simp only [go_sem]) | (refine W.ret (Post.ret ?_); simp only [go_sem, reduceCtorEq]) | refine W.condT rfl ?_ | refine W.condF rfl ?_ | refine W.cond rfl (fun h => ?_) (fun h => ?_))
      | ((show AX _ _ _ _ _); first | (refine AX.pcall rfl rfl (by simp only [go_sem, unim_im]; rfl) (by solve_by_elim) rfl rfl ?_; simp only [go_sem, reduceCtorEq]) | (refine AX.pcallF rfl rfl (by simp only [go_sem, unim_im]; rfl) (by simp only [go_sem, unim_im]; rfl) (by solve_by_elim) rfl rfl ?_; simp only [go_sem, reduceCtorEq]))
      | ((show indepK _ _ _ _ = true ∧ _); refine And.intro (by kernel_rfl) ?_)
      | ((show _ ∧ _); refine And.intro (by first | omega | assumption | (simp only [go_sem]; omega) | (simp; omega) | (simp; done)) ?_)
      | (refine hK _ ?_; clear hK K)
      | (clear hK K; refine hK _ ?_; clear hK K)
      | (clear hK K; clear hK K; refine hK _ ?_; clear hK K)
      | (clear hK K; clear hK K; clear hK K; refine hK _ ?_; clear hK K)
      | fail)
    refine W.ret (PostG.ret (Fits.fit [(0, 0)] [6, 7, 8] 1 rfl rfl Fits.rfl) rfl rfl ?_)
    simp [St.r, go_sem, h1, h2, szT]
  have e2 : decide (n < 0) = false := by simp [h2]
  by_cases h3 : n > 4096
  · have e3 : decide (n > 4096) = true := by simp [h3]
    have e4 : (more != 0) = true := by simp [hm]
    repeat' (first
      | ((show W _ _ _ _); first | (refine W.seq fun K hK => ?_) | refine W.block ?_ | (refine W.reg rfl ?_; simp only [go_sem, reduceCtorEq, e1, e2, e3, e4]) | (refine W.regD Try_mo rfl rfl ?_; simp only [go_sem, reduceCtorEq, e1, e2, e3, e4]) | (refine W.skip ?_; simp only [go_sem]) | (refine W.exit ?_; simp only [go_sem]) | (refine W.ret (Post.ret ?_); simp only [go_sem, reduceCtorEq, e1, e2, e3, e4]) | refine W.condT rfl ?_ | refine W.condF rfl ?_ | refine W.cond rfl (fun h => ?_) (fun h => ?_))
      | ((show AX _ _ _ _ _); first | (refine AX.pcall rfl rfl (by simp only [go_sem, unim_im]; rfl) (by solve_by_elim) rfl rfl ?_; simp only [go_sem, reduceCtorEq, e1, e2, e3, e4]) | (refine AX.pcallF rfl rfl (by simp only [go_sem, unim_im]; rfl) (by simp only [go_sem, unim_im]; rfl) (by solve_by_elim) rfl rfl ?_; simp only [go_sem, reduceCtorEq, e1, e2, e3, e4]))
      | ((show indepK _ _ _ _ = true ∧ _); refine And.intro (by kernel_rfl) ?_)
      | ((show _ ∧ _); refine And.intro (by first | omega | assumption | (simp only [go_sem]; omega) | (simp; omega) | (simp; done)) ?_)
      | (refine hK _ ?_; clear hK K)
      | (clear hK K; refine hK _ ?_; clear hK K)
      | (clear hK K; clear hK K; refine hK _ ?_; clear hK K)
      | (clear hK K; clear hK K; clear hK K; refine hK _ ?_; clear hK K)
      | fail)
    refine AX.gcall [0] rfl rfl (hf more) (by simp only [go_sem, reduceCtorEq]) (by simp only [go_sem, reduceCtorEq]) rfl rfl (by simp only [go_sem, Obj.owns]) rfl (by simp only [go_sem, Obj.owns]) rfl rfl ?_
    simp only [go_sem, reduceCtorEq]
    repeat' (first
      | ((show W _ _ _ _); first | (refine W.seq fun K hK => ?_) | refine W.block ?_ | (refine W.reg rfl ?_; simp only [go_sem, reduceCtorEq]) | (refine W.regD Try_mo rfl rfl ?_; simp only [go_sem, reduceCtorEq]) | (refine W.skip ?_; simp only [go_sem]) | (refine W.exit ?_; simp only [go_sem]) | (refine W.ret (Post.ret ?_); simp only [go_sem, reduceCtorEq]) | refine W.condT rfl ?_ | refine W.condF rfl ?_ | refine W.cond rfl (fun h => ?_) (fun h => ?_))
      | ((show AX _ _ _ _ _); first | (refine AX.pcall rfl rfl (by simp only [go_sem, unim_im]; rfl) (by solve_by_elim) rfl rfl ?_; simp only [go_sem, reduceCtorEq]) | (refine AX.pcallF rfl rfl (by simp only [go_sem, unim_im]; rfl) (by simp only [go_sem, unim_im]; rfl) (by solve_by_elim) rfl rfl ?_; simp only [go_sem, reduceCtorEq]))
      | ((show indepK _ _ _ _ = true ∧ _); refine And.intro (by kernel_rfl) ?_)
      | ((show _ ∧ _); refine And.intro (by first | omega | assumption | (simp only [go_sem]; omega) | (simp; omega) | (simp; done)) ?_)
      | (refine hK _ ?_; clear hK K)
      | (clear hK K; refine hK _ ?_; clear hK K)
      | (clear hK K; clear hK K; refine hK _ ?_; clear hK K)
      | (clear hK K; clear hK K; clear hK K; refine hK _ ?_; clear hK K)
      | fail)
    refine W.ret (PostG.ret (Fits.fit [(0, 0)] [6, 7, 8] 1 rfl rfl Fits.rfl) rfl rfl ?_)
    simp [St.r, go_sem, h1, h2, h3, hm, szT]
  have e3 : decide (n > 4096) = false := by simp [h3]
  by_cases h4 : (s.size : Int) - next < n
  · have e4 : decide ((s.size : Int) - next < n) = true := by simp [h4]
    repeat' (first
      | ((show W _ _ _ _); first | (refine W.seq fun K hK => ?_) | refine W.block ?_ | (refine W.reg rfl ?_; simp only [go_sem, reduceCtorEq, e1, e2, e3, e4, f1]) | (refine W.regD Try_mo rfl rfl ?_; simp only [go_sem, reduceCtorEq, e1, e2, e3, e4, f1]) | (refine W.skip ?_; simp only [go_sem]) | (refine W.exit ?_; simp only [go_sem]) | (refine W.ret (Post.ret ?_); simp only [go_sem, reduceCtorEq, e1, e2, e3, e4, f1]) | refine W.condT rfl ?_ | refine W.condF rfl ?_ | refine W.cond rfl (fun h => ?_) (fun h => ?_))
      | ((show AX _ _ _ _ _); first | (refine AX.pcall rfl rfl (by simp only [go_sem, unim_im]; rfl) (by solve_by_elim) rfl rfl ?_; simp only [go_sem, reduceCtorEq, e1, e2, e3, e4, f1]) | (refine AX.pcallF rfl rfl (by simp only [go_sem, unim_im]; rfl) (by simp only [go_sem, unim_im]; rfl) (by solve_by_elim) rfl rfl ?_; simp only [go_sem, reduceCtorEq, e1, e2, e3, e4, f1]))
      | ((show indepK _ _ _ _ = true ∧ _); refine And.intro (by kernel_rfl) ?_)
      | ((show _ ∧ _); refine And.intro (by first | omega | assumption | (simp only [go_sem]; omega) | (simp; omega) | (simp; done)) ?_)
      | (refine hK _ ?_; clear hK K)
      | (clear hK K; refine hK _ ?_; clear hK K)
      | (clear hK K; clear hK K; refine hK _ ?_; clear hK K)
      | (clear hK K; clear hK K; clear hK K; refine hK _ ?_; clear hK K)
      | fail)
    refine AX.gcall [0] rfl rfl (hf 4) (by simp only [go_sem, reduceCtorEq]) (by simp only [go_sem, reduceCtorEq]) rfl rfl (by simp only [go_sem, Obj.owns]) rfl (by simp only [go_sem, Obj.owns]) rfl rfl ?_
    simp only [go_sem, reduceCtorEq]
    repeat' (first
      | ((show W _ _ _ _); first | (refine W.seq fun K hK => ?_) | refine W.block ?_ | (refine W.reg rfl ?_; simp only [go_sem, reduceCtorEq]) | (refine W.regD Try_mo rfl rfl ?_; simp only [go_sem, reduceCtorEq]) | (refine W.skip ?_; simp only [go_sem]) | (refine W.exit ?_; simp only [go_sem]) | (refine W.ret (Post.ret ?_); simp only [go_sem, reduceCtorEq]) | refine W.condT rfl ?_ | refine W.condF rfl ?_ | refine W.cond rfl (fun h => ?_) (fun h => ?_))
      | ((show AX _ _ _ _ _); first | (refine AX.pcall rfl rfl (by simp only [go_sem, unim_im]; rfl) (by solve_by_elim) rfl rfl ?_; simp only [go_sem, reduceCtorEq]) | (refine AX.pcallF rfl rfl (by simp only [go_sem, unim_im]; rfl) (by simp only [go_sem, unim_im]; rfl) (by solve_by_elim) rfl rfl ?_; simp only [go_sem, reduceCtorEq]))
      | ((show indepK _ _ _ _ = true ∧ _); refine And.intro (by kernel_rfl) ?_)
      | ((show _ ∧ _); refine And.intro (by first | omega | assumption | (simp only [go_sem]; omega) | (simp; omega) | (simp; done)) ?_)
      | (refine hK _ ?_; clear hK K)
      | (clear hK K; refine hK _ ?_; clear hK K)
      | (clear hK K; clear hK K; refine hK _ ?_; clear hK K)
      | (clear hK K; clear hK K; clear hK K; refine hK _ ?_; clear hK K)
      | fail)
    refine W.ret (PostG.ret (Fits.fit [(0, 0)] [6, 7, 8] 1 rfl rfl Fits.rfl) rfl rfl ?_)
    simp [St.r, go_sem, h1, h2, h3, h4, szT]
  have e4 : decide ((s.size : Int) - next < n) = false := by simp [h4]
  repeat' (first
    | ((show W _ _ _ _); first | (refine W.seq fun K hK => ?_) | refine W.block ?_ | (refine W.reg rfl ?_; simp only [go_sem, reduceCtorEq, e1, e2, e3, e4, f1]) | (refine W.regD Try_mo rfl rfl ?_; simp only [go_sem, reduceCtorEq, e1, e2, e3, e4, f1]) | (refine W.skip ?_; simp only [go_sem]) | (refine W.exit ?_; simp only [go_sem]) | (refine W.ret (Post.ret ?_); simp only [go_sem, reduceCtorEq, e1, e2, e3, e4, f1]) | refine W.condT rfl ?_ | refine W.condF rfl ?_ | refine W.cond rfl (fun h => ?_) (fun h => ?_))
    | ((show AX _ _ _ _ _); first | (refine AX.pcall rfl rfl (by simp only [go_sem, unim_im]; rfl) (by solve_by_elim) rfl rfl ?_; simp only [go_sem, reduceCtorEq, e1, e2, e3, e4, f1]) | (refine AX.pcallF rfl rfl (by simp only [go_sem, unim_im]; rfl) (by simp only [go_sem, unim_im]; rfl) (by solve_by_elim) rfl rfl ?_; simp only [go_sem, reduceCtorEq, e1, e2, e3, e4, f1]))
    | ((show indepK _ _ _ _ = true ∧ _); refine And.intro (by kernel_rfl) ?_)
    | ((show _ ∧ _); refine And.intro (by first | omega | assumption | (simp only [go_sem]; omega) | (simp; omega) | (simp; done)) ?_)
    | (refine hK _ ?_; clear hK K)
    | (clear hK K; refine hK _ ?_; clear hK K)
    | (clear hK K; clear hK K; refine hK _ ?_; clear hK K)
    | (clear hK K; clear hK K; clear hK K; refine hK _ ?_; clear hK K)
    | fail)
  refine W.ret (PostG.ret (Fits.fit [(0, 0)] [6, 7, 8] 1 rfl rfl Fits.rfl) rfl rfl ?_)
  have hn : (n.toNat : Int) = n := by omega
  simp [St.r, go_sem, h1, h2, h3, h4, szT, hn]
end Go.Proofs.Ytegcmciglakicaa
namespace Go.Proofs.Ytegcmciglakicaa
open Go.RowKit Go.Exe
set_option linter.unusedVariables false
set_option linter.unusedSimpArgs false
set_option maxHeartbeats 1000000
set_option maxRecDepth 100000
attribute [local irreducible] W AX Run RunD AStep AOp AOpX AStB AStH AStG Fits PCall GCall PostG Post Stop

def txV (s : ByteArray) (a : Nat) (e : Int) : ByteArray := if e ≠ 0 then .empty else if rdErr s a 5 = 0 then s.extract (rdNxt s a) (rdNxt s a + rdCnt s a) else .empty
def txA (s : ByteArray) (a : Nat) (e : Int) : Nat := if e ≠ 0 then a else if rdErr s a 5 = 0 then rdNxt s a + rdCnt s a else a
def txE (s : ByteArray) (a : Nat) (e : Int) : Int := if e ≠ 0 then e else rdErr s a 5
def cnV (s : ByteArray) (a : Nat) (e : Int) : Nat := if e ≠ 0 then 0 else if rdErr s a 6 = 0 then rdCnt s a else 0
def cnA (s : ByteArray) (a : Nat) (e : Int) : Nat := if e ≠ 0 then a else if rdErr s a 6 = 0 then rdNxt s a else a
def cnE (s : ByteArray) (a : Nat) (e : Int) : Int := if e ≠ 0 then e else rdErr s a 6
theorem rdErr_0 {s : ByteArray} {a : Nat} {more : Int} (hm : more ≠ 0) (h : rdErr s a more = 0) : rdNxt s a + rdCnt s a ≤ s.size ∧ rdCnt s a ≤ 4096 := by
  have hk := rdNum_ok s a
  unfold rdErr at h
  unfold rdNxt rdCnt
  split at h
  · omega
  · split at h
    · omega
    · split at h
      · omega
      · split at h
        · omega
        · omega
theorem txA_le {s : ByteArray} {a : Nat} {e : Int} (h : a ≤ s.size) : txA s a e ≤ s.size := by
  unfold txA
  split
  · exact h
  · split
    · rename_i h2; exact (rdErr_0 (by decide) h2).1
    · exact h
theorem cnA_le {s : ByteArray} {a : Nat} {e : Int} (h : a ≤ s.size) : cnA s a e ≤ s.size := by
  unfold cnA
  split
  · exact h
  · split
    · rename_i h2; have := (rdErr_0 (by decide) h2).1; omega
    · exact h
theorem cnV_le (s : ByteArray) (a : Nat) (e : Int) : cnV s a e ≤ 4096 := by
  unfold cnV
  split
  · omega
  · split
    · rename_i h2; exact (rdErr_0 (by decide) h2).2
    · omega
theorem text_r (s : ByteArray) (a : Nat) (e : Int) (hs : s.size ≤ 140737488355328) (ha : a ≤ s.size) :
    GCall Try.prog 45 1 (St.g [.c (.ptr 0 0), ft (.int .i64 4096)] [(0, rdB s a e)] 1) (St.r (ft (.string (txV s a e))) [(0, rdB s (txA s a e) (txE s a e))] 1) := by
  have c1 := ok_r s a e
  have hc := size_r s a 5 hs (by omega) (by decide)
  have h0 := fun h => @rdErr_0 s a 5 (by decide) h
  simp only [rdB, szT] at *
  unfold txV txA txE
  refine GCall.introG (nt := 36) (rs := [.tmp 4]) Try.func45 rfl ⟨by kernel_rfl, by kernel_rfl, by kernel_rfl⟩ (by simp) ?_
  rintro ⟨P, w0, ok0, may, np, pblk⟩ rfl rfl
  simp only [go_sem]
  repeat' (first
    | ((show W _ _ _ _); first | (refine W.seq fun K hK => ?_) | refine W.block ?_ | (refine W.reg rfl ?_; simp only [go_sem, reduceCtorEq]) | (refine W.regD Try_mo rfl rfl ?_; simp only [go_sem, reduceCtorEq]) | (refine W.skip ?_; simp only [go_sem]) | (refine W.exit ?_; simp only [go_sem]) | (refine W.ret (Post.ret ?_); simp only [go_sem, reduceCtorEq]) | refine W.condT rfl ?_ | refine W.condF rfl ?_ | refine W.cond rfl (fun h => ?_) (fun h => ?_))
    | ((show AX _ _ _ _ _); first | (refine AX.pcall rfl rfl (by simp only [go_sem, unim_im]; rfl) (by solve_by_elim) rfl rfl ?_; simp only [go_sem, reduceCtorEq]) | (refine AX.pcallF rfl rfl (by simp only [go_sem, unim_im]; rfl) (by simp only [go_sem, unim_im]; rfl) (by solve_by_elim) rfl rfl ?_; simp only [go_sem, reduceCtorEq]))
    | ((show indepK _ _ _ _ = true ∧ _); refine And.intro (by kernel_rfl) ?_)
    | ((show _ ∧ _); refine And.intro (by first | omega | assumption | (simp only [go_sem]; omega) | (simp; omega) | (simp; done)) ?_)
    | (refine hK _ ?_; clear hK K)
    | (clear hK K; refine hK _ ?_; clear hK K)
    | (clear hK K; clear hK K; refine hK _ ?_; clear hK K)
    | (clear hK K; clear hK K; clear hK K; refine hK _ ?_; clear hK K)
    | fail)
  by_cases h1 : e = 0
  rotate_left
  · have e1 : (e == 0) = false := by simp [h1]
    refine AX.gcall [0] rfl rfl (c1) (by simp only [go_sem, reduceCtorEq, e1]) (by simp only [go_sem, reduceCtorEq, e1]) rfl rfl (by simp only [go_sem, Obj.owns]) rfl (by simp only [go_sem, Obj.owns]) rfl rfl ?_
    simp only [go_sem, reduceCtorEq, e1]
    repeat' (first
      | ((show W _ _ _ _); first | (refine W.seq fun K hK => ?_) | refine W.block ?_ | (refine W.reg rfl ?_; simp only [go_sem, reduceCtorEq, e1]) | (refine W.regD Try_mo rfl rfl ?_; simp only [go_sem, reduceCtorEq, e1]) | (refine W.skip ?_; simp only [go_sem]) | (refine W.exit ?_; simp only [go_sem]) | (refine W.ret (Post.ret ?_); simp only [go_sem, reduceCtorEq, e1]) | refine W.condT rfl ?_ | refine W.condF rfl ?_ | refine W.cond rfl (fun h => ?_) (fun h => ?_))
      | ((show AX _ _ _ _ _); first | (refine AX.pcall rfl rfl (by simp only [go_sem, unim_im]; rfl) (by solve_by_elim) rfl rfl ?_; simp only [go_sem, reduceCtorEq, e1]) | (refine AX.pcallF rfl rfl (by simp only [go_sem, unim_im]; rfl) (by simp only [go_sem, unim_im]; rfl) (by solve_by_elim) rfl rfl ?_; simp only [go_sem, reduceCtorEq, e1]))
      | ((show indepK _ _ _ _ = true ∧ _); refine And.intro (by kernel_rfl) ?_)
      | ((show _ ∧ _); refine And.intro (by first | omega | assumption | (simp only [go_sem]; omega) | (simp; omega) | (simp; done)) ?_)
      | (refine hK _ ?_; clear hK K)
      | (clear hK K; refine hK _ ?_; clear hK K)
      | (clear hK K; clear hK K; refine hK _ ?_; clear hK K)
      | (clear hK K; clear hK K; clear hK K; refine hK _ ?_; clear hK K)
      | fail)
    refine W.ret (PostG.ret (Fits.fit [(0, 0)] [4] 1 rfl rfl Fits.rfl) rfl rfl ?_)
    simp only [St.r, go_sem, if_pos h1, ne_eq, h1, not_false_eq_true, if_true]
    rfl
  have e1 : (e == 0) = true := by simp [h1]
  subst h1
  refine AX.gcall [0] rfl rfl (c1) (by simp only [go_sem, reduceCtorEq, e1]) (by simp only [go_sem, reduceCtorEq, e1]) rfl rfl (by simp only [go_sem, Obj.owns]) rfl (by simp only [go_sem, Obj.owns]) rfl rfl ?_
  simp only [go_sem, reduceCtorEq, e1]
  repeat' (first
    | ((show W _ _ _ _); first | (refine W.seq fun K hK => ?_) | refine W.block ?_ | (refine W.reg rfl ?_; simp only [go_sem, reduceCtorEq, e1]) | (refine W.regD Try_mo rfl rfl ?_; simp only [go_sem, reduceCtorEq, e1]) | (refine W.skip ?_; simp only [go_sem]) | (refine W.exit ?_; simp only [go_sem]) | (refine W.ret (Post.ret ?_); simp only [go_sem, reduceCtorEq, e1]) | refine W.condT rfl ?_ | refine W.condF rfl ?_ | refine W.cond rfl (fun h => ?_) (fun h => ?_))
    | ((show AX _ _ _ _ _); first | (refine AX.pcall rfl rfl (by simp only [go_sem, unim_im]; rfl) (by solve_by_elim) rfl rfl ?_; simp only [go_sem, reduceCtorEq, e1]) | (refine AX.pcallF rfl rfl (by simp only [go_sem, unim_im]; rfl) (by simp only [go_sem, unim_im]; rfl) (by solve_by_elim) rfl rfl ?_; simp only [go_sem, reduceCtorEq, e1]))
    | ((show indepK _ _ _ _ = true ∧ _); refine And.intro (by kernel_rfl) ?_)
    | ((show _ ∧ _); refine And.intro (by first | omega | assumption | (simp only [go_sem]; omega) | (simp; omega) | (simp; done)) ?_)
    | (refine hK _ ?_; clear hK K)
    | (clear hK K; refine hK _ ?_; clear hK K)
    | (clear hK K; clear hK K; refine hK _ ?_; clear hK K)
    | (clear hK K; clear hK K; clear hK K; refine hK _ ?_; clear hK K)
    | fail)
  by_cases h2 : rdErr s a 5 = 0
  rotate_left
  · rw [if_neg h2] at hc
    refine AX.gcall [0] rfl rfl (hc) (by simp only [go_sem, reduceCtorEq]) (by simp only [go_sem, reduceCtorEq]) rfl rfl (by simp only [go_sem, Obj.owns]) rfl (by simp only [go_sem, Obj.owns]) rfl rfl ?_
    simp only [go_sem, reduceCtorEq]
    repeat' (first
      | ((show W _ _ _ _); first | (refine W.seq fun K hK => ?_) | refine W.block ?_ | (refine W.reg rfl ?_; simp only [go_sem, reduceCtorEq]) | (refine W.regD Try_mo rfl rfl ?_; simp only [go_sem, reduceCtorEq]) | (refine W.skip ?_; simp only [go_sem]) | (refine W.exit ?_; simp only [go_sem]) | (refine W.ret (Post.ret ?_); simp only [go_sem, reduceCtorEq]) | refine W.condT rfl ?_ | refine W.condF rfl ?_ | refine W.cond rfl (fun h => ?_) (fun h => ?_))
      | ((show AX _ _ _ _ _); first | (refine AX.pcall rfl rfl (by simp only [go_sem, unim_im]; rfl) (by solve_by_elim) rfl rfl ?_; simp only [go_sem, reduceCtorEq]) | (refine AX.pcallF rfl rfl (by simp only [go_sem, unim_im]; rfl) (by simp only [go_sem, unim_im]; rfl) (by solve_by_elim) rfl rfl ?_; simp only [go_sem, reduceCtorEq]))
      | ((show indepK _ _ _ _ = true ∧ _); refine And.intro (by kernel_rfl) ?_)
      | ((show _ ∧ _); refine And.intro (by first | omega | assumption | (simp only [go_sem]; omega) | (simp; omega) | (simp; done)) ?_)
      | (refine hK _ ?_; clear hK K)
      | (clear hK K; refine hK _ ?_; clear hK K)
      | (clear hK K; clear hK K; refine hK _ ?_; clear hK K)
      | (clear hK K; clear hK K; clear hK K; refine hK _ ?_; clear hK K)
      | fail)
    refine W.ret (PostG.ret (Fits.fit [(0, 0)] [4] 1 rfl rfl Fits.rfl) rfl rfl ?_)
    simp only [St.r, go_sem, ne_eq, not_true_eq_false, if_false, if_neg h2]
    rfl
  rw [if_pos h2, h2] at hc
  have h3 := h0 h2
  have f1 : IntKind.i64.wrap ((rdNxt s a : Int) + (rdCnt s a : Int)) = ((rdNxt s a + rdCnt s a : Nat) : Int) := by rw [w64 (by omega) (by omega)]; omega
  refine AX.gcall [0] rfl rfl (hc) (by simp only [go_sem, reduceCtorEq]) (by simp only [go_sem, reduceCtorEq]) rfl rfl (by simp only [go_sem, Obj.owns]) rfl (by simp only [go_sem, Obj.owns]) rfl rfl ?_
  simp only [go_sem, reduceCtorEq]
  repeat' (first
    | ((show W _ _ _ _); first | (refine W.seq fun K hK => ?_) | refine W.block ?_ | (refine W.reg rfl ?_; simp only [go_sem, reduceCtorEq, f1]) | (refine W.regD Try_mo rfl rfl ?_; simp only [go_sem, reduceCtorEq, f1]) | (refine W.skip ?_; simp only [go_sem]) | (refine W.exit ?_; simp only [go_sem]) | (refine W.ret (Post.ret ?_); simp only [go_sem, reduceCtorEq, f1]) | refine W.condT rfl ?_ | refine W.condF rfl ?_ | refine W.cond rfl (fun h => ?_) (fun h => ?_))
    | ((show AX _ _ _ _ _); first | (refine AX.pcall rfl rfl (by simp only [go_sem, unim_im]; rfl) (by solve_by_elim) rfl rfl ?_; simp only [go_sem, reduceCtorEq, f1]) | (refine AX.pcallF rfl rfl (by simp only [go_sem, unim_im]; rfl) (by simp only [go_sem, unim_im]; rfl) (by solve_by_elim) rfl rfl ?_; simp only [go_sem, reduceCtorEq, f1]))
    | ((show indepK _ _ _ _ = true ∧ _); refine And.intro (by kernel_rfl) ?_)
    | ((show _ ∧ _); refine And.intro (by first | omega | assumption | (simp only [go_sem]; omega) | (simp; omega) | (simp; done)) ?_)
    | (refine hK _ ?_; clear hK K)
    | (clear hK K; refine hK _ ?_; clear hK K)
    | (clear hK K; clear hK K; refine hK _ ?_; clear hK K)
    | (clear hK K; clear hK K; clear hK K; refine hK _ ?_; clear hK K)
    | fail)
  refine W.ret (PostG.ret (Fits.fit [(0, 0)] [4] 1 rfl rfl Fits.rfl) rfl rfl ?_)
  simp only [St.r, go_sem, ne_eq, not_true_eq_false, if_false, if_pos h2, h2]
  try rfl
theorem count_r (s : ByteArray) (a : Nat) (e : Int) (hs : s.size ≤ 140737488355328) (ha : a ≤ s.size) :
    GCall Try.prog 46 1 (St.g [.c (.ptr 0 0), ft (.int .i64 4096)] [(0, rdB s a e)] 1) (St.r (ft (.int .i64 (cnV s a e : Nat))) [(0, rdB s (cnA s a e) (cnE s a e))] 1) := by
  have c1 := ok_r s a e
  have hc := size_r s a 6 hs (by omega) (by decide)
  have h0 := fun h => @rdErr_0 s a 6 (by decide) h
  simp only [rdB, szT] at *
  unfold cnV cnA cnE
  refine GCall.introG (nt := 24) (rs := [.tmp 4]) Try.func46 rfl ⟨by kernel_rfl, by kernel_rfl, by kernel_rfl⟩ (by simp) ?_
  rintro ⟨P, w0, ok0, may, np, pblk⟩ rfl rfl
  simp only [go_sem]
  repeat' (first
    | ((show W _ _ _ _); first | (refine W.seq fun K hK => ?_) | refine W.block ?_ | (refine W.reg rfl ?_; simp only [go_sem, reduceCtorEq]) | (refine W.regD Try_mo rfl rfl ?_; simp only [go_sem, reduceCtorEq]) | (refine W.skip ?_; simp only [go_sem]) | (refine W.exit ?_; simp only [go_sem]) | (refine W.ret (Post.ret ?_); simp only [go_sem, reduceCtorEq]) | refine W.condT rfl ?_ | refine W.condF rfl ?_ | refine W.cond rfl (fun h => ?_) (fun h => ?_))
    | ((show AX _ _ _ _ _); first | (refine AX.pcall rfl rfl (by simp only [go_sem, unim_im]; rfl) (by solve_by_elim) rfl rfl ?_; simp only [go_sem, reduceCtorEq]) | (refine AX.pcallF rfl rfl (by simp only [go_sem, unim_im]; rfl) (by simp only [go_sem, unim_im]; rfl) (by solve_by_elim) rfl rfl ?_; simp only [go_sem, reduceCtorEq]))
    | ((show indepK _ _ _ _ = true ∧ _); refine And.intro (by kernel_rfl) ?_)
    | ((show _ ∧ _); refine And.intro (by first | omega | assumption | (simp only [go_sem]; omega) | (simp; omega) | (simp; done)) ?_)
    | (refine hK _ ?_; clear hK K)
    | (clear hK K; refine hK _ ?_; clear hK K)
    | (clear hK K; clear hK K; refine hK _ ?_; clear hK K)
    | (clear hK K; clear hK K; clear hK K; refine hK _ ?_; clear hK K)
    | fail)
  by_cases h1 : e = 0
  rotate_left
  · have e1 : (e == 0) = false := by simp [h1]
    refine AX.gcall [0] rfl rfl (c1) (by simp only [go_sem, reduceCtorEq, e1]) (by simp only [go_sem, reduceCtorEq, e1]) rfl rfl (by simp only [go_sem, Obj.owns]) rfl (by simp only [go_sem, Obj.owns]) rfl rfl ?_
    simp only [go_sem, reduceCtorEq, e1]
    repeat' (first
      | ((show W _ _ _ _); first | (refine W.seq fun K hK => ?_) | refine W.block ?_ | (refine W.reg rfl ?_; simp only [go_sem, reduceCtorEq, e1]) | (refine W.regD Try_mo rfl rfl ?_; simp only [go_sem, reduceCtorEq, e1]) | (refine W.skip ?_; simp only [go_sem]) | (refine W.exit ?_; simp only [go_sem]) | (refine W.ret (Post.ret ?_); simp only [go_sem, reduceCtorEq, e1]) | refine W.condT rfl ?_ | refine W.condF rfl ?_ | refine W.cond rfl (fun h => ?_) (fun h => ?_))
      | ((show AX _ _ _ _ _); first | (refine AX.pcall rfl rfl (by simp only [go_sem, unim_im]; rfl) (by solve_by_elim) rfl rfl ?_; simp only [go_sem, reduceCtorEq, e1]) | (refine AX.pcallF rfl rfl (by simp only [go_sem, unim_im]; rfl) (by simp only [go_sem, unim_im]; rfl) (by solve_by_elim) rfl rfl ?_; simp only [go_sem, reduceCtorEq, e1]))
      | ((show indepK _ _ _ _ = true ∧ _); refine And.intro (by kernel_rfl) ?_)
      | ((show _ ∧ _); refine And.intro (by first | omega | assumption | (simp only [go_sem]; omega) | (simp; omega) | (simp; done)) ?_)
      | (refine hK _ ?_; clear hK K)
      | (clear hK K; refine hK _ ?_; clear hK K)
      | (clear hK K; clear hK K; refine hK _ ?_; clear hK K)
      | (clear hK K; clear hK K; clear hK K; refine hK _ ?_; clear hK K)
      | fail)
    refine W.ret (PostG.ret (Fits.fit [(0, 0)] [4] 1 rfl rfl Fits.rfl) rfl rfl ?_)
    simp only [St.r, go_sem, if_pos h1, ne_eq, h1, not_false_eq_true, if_true]
    rfl
  have e1 : (e == 0) = true := by simp [h1]
  subst h1
  refine AX.gcall [0] rfl rfl (c1) (by simp only [go_sem, reduceCtorEq, e1]) (by simp only [go_sem, reduceCtorEq, e1]) rfl rfl (by simp only [go_sem, Obj.owns]) rfl (by simp only [go_sem, Obj.owns]) rfl rfl ?_
  simp only [go_sem, reduceCtorEq, e1]
  repeat' (first
    | ((show W _ _ _ _); first | (refine W.seq fun K hK => ?_) | refine W.block ?_ | (refine W.reg rfl ?_; simp only [go_sem, reduceCtorEq, e1]) | (refine W.regD Try_mo rfl rfl ?_; simp only [go_sem, reduceCtorEq, e1]) | (refine W.skip ?_; simp only [go_sem]) | (refine W.exit ?_; simp only [go_sem]) | (refine W.ret (Post.ret ?_); simp only [go_sem, reduceCtorEq, e1]) | refine W.condT rfl ?_ | refine W.condF rfl ?_ | refine W.cond rfl (fun h => ?_) (fun h => ?_))
    | ((show AX _ _ _ _ _); first | (refine AX.pcall rfl rfl (by simp only [go_sem, unim_im]; rfl) (by solve_by_elim) rfl rfl ?_; simp only [go_sem, reduceCtorEq, e1]) | (refine AX.pcallF rfl rfl (by simp only [go_sem, unim_im]; rfl) (by simp only [go_sem, unim_im]; rfl) (by solve_by_elim) rfl rfl ?_; simp only [go_sem, reduceCtorEq, e1]))
    | ((show indepK _ _ _ _ = true ∧ _); refine And.intro (by kernel_rfl) ?_)
    | ((show _ ∧ _); refine And.intro (by first | omega | assumption | (simp only [go_sem]; omega) | (simp; omega) | (simp; done)) ?_)
    | (refine hK _ ?_; clear hK K)
    | (clear hK K; refine hK _ ?_; clear hK K)
    | (clear hK K; clear hK K; refine hK _ ?_; clear hK K)
    | (clear hK K; clear hK K; clear hK K; refine hK _ ?_; clear hK K)
    | fail)
  by_cases h2 : rdErr s a 6 = 0
  rotate_left
  · rw [if_neg h2] at hc
    refine AX.gcall [0] rfl rfl (hc) (by simp only [go_sem, reduceCtorEq]) (by simp only [go_sem, reduceCtorEq]) rfl rfl (by simp only [go_sem, Obj.owns]) rfl (by simp only [go_sem, Obj.owns]) rfl rfl ?_
    simp only [go_sem, reduceCtorEq]
    repeat' (first
      | ((show W _ _ _ _); first | (refine W.seq fun K hK => ?_) | refine W.block ?_ | (refine W.reg rfl ?_; simp only [go_sem, reduceCtorEq]) | (refine W.regD Try_mo rfl rfl ?_; simp only [go_sem, reduceCtorEq]) | (refine W.skip ?_; simp only [go_sem]) | (refine W.exit ?_; simp only [go_sem]) | (refine W.ret (Post.ret ?_); simp only [go_sem, reduceCtorEq]) | refine W.condT rfl ?_ | refine W.condF rfl ?_ | refine W.cond rfl (fun h => ?_) (fun h => ?_))
      | ((show AX _ _ _ _ _); first | (refine AX.pcall rfl rfl (by simp only [go_sem, unim_im]; rfl) (by solve_by_elim) rfl rfl ?_; simp only [go_sem, reduceCtorEq]) | (refine AX.pcallF rfl rfl (by simp only [go_sem, unim_im]; rfl) (by simp only [go_sem, unim_im]; rfl) (by solve_by_elim) rfl rfl ?_; simp only [go_sem, reduceCtorEq]))
      | ((show indepK _ _ _ _ = true ∧ _); refine And.intro (by kernel_rfl) ?_)
      | ((show _ ∧ _); refine And.intro (by first | omega | assumption | (simp only [go_sem]; omega) | (simp; omega) | (simp; done)) ?_)
      | (refine hK _ ?_; clear hK K)
      | (clear hK K; refine hK _ ?_; clear hK K)
      | (clear hK K; clear hK K; refine hK _ ?_; clear hK K)
      | (clear hK K; clear hK K; clear hK K; refine hK _ ?_; clear hK K)
      | fail)
    refine W.ret (PostG.ret (Fits.fit [(0, 0)] [4] 1 rfl rfl Fits.rfl) rfl rfl ?_)
    simp only [St.r, go_sem, ne_eq, not_true_eq_false, if_false, if_neg h2]
    rfl
  rw [if_pos h2, h2] at hc
  refine AX.gcall [0] rfl rfl (hc) (by simp only [go_sem, reduceCtorEq]) (by simp only [go_sem, reduceCtorEq]) rfl rfl (by simp only [go_sem, Obj.owns]) rfl (by simp only [go_sem, Obj.owns]) rfl rfl ?_
  simp only [go_sem, reduceCtorEq]
  repeat' (first
    | ((show W _ _ _ _); first | (refine W.seq fun K hK => ?_) | refine W.block ?_ | (refine W.reg rfl ?_; simp only [go_sem, reduceCtorEq]) | (refine W.regD Try_mo rfl rfl ?_; simp only [go_sem, reduceCtorEq]) | (refine W.skip ?_; simp only [go_sem]) | (refine W.exit ?_; simp only [go_sem]) | (refine W.ret (Post.ret ?_); simp only [go_sem, reduceCtorEq]) | refine W.condT rfl ?_ | refine W.condF rfl ?_ | refine W.cond rfl (fun h => ?_) (fun h => ?_))
    | ((show AX _ _ _ _ _); first | (refine AX.pcall rfl rfl (by simp only [go_sem, unim_im]; rfl) (by solve_by_elim) rfl rfl ?_; simp only [go_sem, reduceCtorEq]) | (refine AX.pcallF rfl rfl (by simp only [go_sem, unim_im]; rfl) (by simp only [go_sem, unim_im]; rfl) (by solve_by_elim) rfl rfl ?_; simp only [go_sem, reduceCtorEq]))
    | ((show indepK _ _ _ _ = true ∧ _); refine And.intro (by kernel_rfl) ?_)
    | ((show _ ∧ _); refine And.intro (by first | omega | assumption | (simp only [go_sem]; omega) | (simp; omega) | (simp; done)) ?_)
    | (refine hK _ ?_; clear hK K)
    | (clear hK K; refine hK _ ?_; clear hK K)
    | (clear hK K; clear hK K; refine hK _ ?_; clear hK K)
    | (clear hK K; clear hK K; clear hK K; refine hK _ ?_; clear hK K)
    | fail)
  refine W.ret (PostG.ret (Fits.fit [(0, 0)] [4] 1 rfl rfl Fits.rfl) rfl rfl ?_)
  simp only [St.r, go_sem, ne_eq, not_true_eq_false, if_false, if_pos h2, h2]
  try rfl
end Go.Proofs.Ytegcmciglakicaa
namespace Go.Proofs.Ytegcmciglakicaa
open Go.RowKit Go.Exe
set_option linter.unusedVariables false
set_option linter.unusedSimpArgs false
set_option maxHeartbeats 1000000
set_option maxRecDepth 100000
attribute [local irreducible] W AX Run RunD AStep AOp AOpX AStB AStH AStG Fits PCall GCall PostG Post Stop

/-- What reading a shape answers: the shape, the nodes that have begun, where the reader is, its error, the answer's error. -/
structure DR where
  x : Shp
  k : Nat
  a : Nat
  e : Int
  err : Int
structure KR where
  ks : List Shp
  k : Nat
  a : Nat
  e : Int
  err : Int
def shp0 : Shp := .mk .empty .empty []
/-- where the reader is behind the head of a node, and its error -/
def hdA (s : ByteArray) (a : Nat) (e : Int) : Nat := cnA s (txA s (txA s a e) (txE s a e)) (txE s (txA s a e) (txE s a e))
def hdE (s : ByteArray) (a : Nat) (e : Int) : Int := cnE s (txA s (txA s a e) (txE s a e)) (txE s (txA s a e) (txE s a e))
def hdN (s : ByteArray) (a : Nat) (e : Int) : Nat := cnV s (txA s (txA s a e) (txE s a e)) (txE s (txA s a e) (txE s a e))
def hdO (s : ByteArray) (a : Nat) (e : Int) : ByteArray := txV s (txA s a e) (txE s a e)
mutual
def decF (s : ByteArray) : Nat → Nat → Nat → Int → DR
  | 0, k, a, e => ⟨shp0, k + 1, a, e, 6⟩
  | f + 1, k, a, e =>
    if k ≥ 4096 then ⟨shp0, k + 1, a, e, 6⟩
    else if hdE s a e ≠ 0 then ⟨shp0, k + 1, hdA s a e, hdE s a e, hdE s a e⟩
    else
      let r := kidF s f (hdN s a e) (k + 1) (hdA s a e) (hdE s a e) []
      if r.err ≠ 0 then ⟨shp0, r.k, r.a, r.e, r.err⟩ else ⟨.mk (txV s a e) (hdO s a e) r.ks, r.k, r.a, r.e, 0⟩
termination_by f _ _ _ => (f, 0)
def kidF (s : ByteArray) : Nat → Nat → Nat → Nat → Int → List Shp → KR
  | _, 0, k, a, e, acc => ⟨acc, k, a, e, 0⟩
  | f, n + 1, k, a, e, acc =>
    let c := decF s f k a e
    if c.err ≠ 0 then ⟨[], c.k, c.a, c.e, c.err⟩ else kidF s f n c.k c.a c.e (acc ++ [c.x])
termination_by f n _ _ _ _ => (f, n + 1)
end
theorem hdA_le {s : ByteArray} {a : Nat} {e : Int} (h : a ≤ s.size) : hdA s a e ≤ s.size := cnA_le (txA_le (txA_le h))
mutual
theorem decF_ok (s : ByteArray) : ∀ (f k a : Nat) (e : Int), a ≤ s.size → k ≤ 4096 → (decF s f k a e).a ≤ s.size ∧ k + 1 ≤ (decF s f k a e).k ∧ ((decF s f k a e).err = 0 → (decF s f k a e).k ≤ 4096)
  | 0, k, a, e, h, hk => by simp only [decF]; exact ⟨h, Nat.le_refl _, fun h => by simp at h⟩
  | f + 1, k, a, e, h, hk => by
    have h1 := hdA_le (e := e) h
    simp only [decF]
    split
    · exact ⟨h, Nat.le_refl _, fun h => by simp at h⟩
    · split
      · rename_i h2; exact ⟨h1, Nat.le_refl _, fun h => absurd h h2⟩
      · have h2 := kidF_ok s f (hdN s a e) (k + 1) (hdA s a e) (hdE s a e) [] h1 (by omega)
        split
        · rename_i h3; exact ⟨h2.1, h2.2.1, fun h => absurd h h3⟩
        · rename_i h3; exact ⟨h2.1, h2.2.1, fun _ => h2.2.2 (by simpa using h3)⟩
termination_by f _ _ _ _ _ => (f, 0)
theorem kidF_ok (s : ByteArray) : ∀ (f n k a : Nat) (e : Int) (acc : List Shp), a ≤ s.size → k ≤ 4096 → (kidF s f n k a e acc).a ≤ s.size ∧ k ≤ (kidF s f n k a e acc).k ∧ ((kidF s f n k a e acc).err = 0 → (kidF s f n k a e acc).k ≤ 4096)
  | f, 0, k, a, e, acc, h, hk => by simp only [kidF]; exact ⟨h, Nat.le_refl _, fun _ => hk⟩
  | f, n + 1, k, a, e, acc, h, hk => by
    have h1 := decF_ok s f k a e h hk
    simp only [kidF]
    split
    · rename_i h2; exact ⟨h1.1, by show k ≤ (decF s f k a e).k; omega, fun h => absurd h h2⟩
    · rename_i h2
      have h3 := kidF_ok s f n (decF s f k a e).k (decF s f k a e).a (decF s f k a e).e (acc ++ [(decF s f k a e).x]) h1.1 (h1.2.2 (by simpa using h2))
      exact ⟨h3.1, by omega, h3.2.2⟩
termination_by f n _ _ _ _ _ _ => (f, n + 1)
end
def drT (r : DR) : TV := .t [(true, r.x.av.map .im), (false, [fl (.int .i64 r.err)])]
abbrev xB (k : Nat) : Exe.Obj := .box 75 [.ptr 1 0, fl (.int .i64 (k : Nat))]
def ShapeR (s : ByteArray) (f : Nat) : Prop := ∀ (k a : Nat) (e : Int), a ≤ s.size → k ≤ 4096 → 4096 ≤ k + f →
  GCall Try.prog 42 2 (St.g [.c (.ptr 0 0)] [(0, xB k), (1, rdB s a e)] 2) (St.r (drT (decF s f k a e)) [(0, xB (decF s f k a e).k), (1, rdB s (decF s f k a e).a (decF s f k a e).e)] 2)
def ShapeR2 (s : ByteArray) (f : Nat) : Prop := ∀ (k a : Nat) (e : Int), a ≤ s.size → k ≤ 4096 → 4096 ≤ k + f →
  GCall Try.prog 42 2 (St.g [.c (.ptr 0 0)] [(0, xB k), (1, rdB s a e)] 2) (St.r (drT (decF s f k a e)) [(0, xB (decF s f k a e).k), (1, rdB s (decF s f k a e).a (decF s f k a e).e), (2, .box 27 ((decF s f k a e).x.av.map .im))] 3)
theorem ShapeR2.drop {s : ByteArray} {f : Nat} (h : ShapeR2 s f) : ShapeR s f := fun k a e ha hk hf => by
  refine (h k a e ha hk hf).post fun C hC hn => Fits.fit [(0, 0), (1, 1)] [0] 2 rfl (by rw [hn]; rfl) ?_
  generalize decF s f k a e = r
  obtain ⟨⟨s', o', ks'⟩, k', a', e', err⟩ := r
  simp only [St.r, go_sem, drT, Shp.av, List.map, xB, rdB]
  exact Fits.rfl
def DR.G (s : ByteArray) (k a : Nat) (e : Int) (r : DR) : Prop :=
  GCall Try.prog 42 2 (St.g [.c (.ptr 0 0)] [(0, xB k), (1, rdB s a e)] 2) (St.r (drT r) [(0, xB r.k), (1, rdB s r.a r.e), (2, .box 27 (r.x.av.map .im))] 3)
theorem shape_lim (s : ByteArray) (k a : Nat) (e : Int) (hk : k ≤ 4096) (h1 : k ≥ 4096) : DR.G s k a e ⟨shp0, k + 1, a, e, 6⟩ := by
  have hw := w64s k (by omega)
  have e1 : decide (((k + 1 : Nat) : Int) > 4096) = true := by simp; omega
  unfold DR.G
  simp only [xB, rdB, drT, shp0, Shp.av, List.map, avs]
  refine GCall.introG (nt := 67) (rs := [.cell 2 27, .tmp 3]) Try.func42 rfl ⟨by kernel_rfl, by kernel_rfl, by kernel_rfl⟩ (by simp) ?_
  rintro ⟨P, w0, ok0, may, np, pblk⟩ rfl rfl
  simp only [go_sem]
  repeat' (first
    | ((show W _ _ _ _); first | (refine W.seq fun K hK => ?_) | refine W.block ?_ | (refine W.reg rfl ?_; simp only [go_sem, reduceCtorEq, hw, e1]) | (refine W.regD Try_mo rfl rfl ?_; simp only [go_sem, reduceCtorEq, hw, e1]) | (refine W.skip ?_; simp only [go_sem]) | (refine W.exit ?_; simp only [go_sem]) | (refine W.ret (Post.ret ?_); simp only [go_sem, reduceCtorEq, hw, e1]) | refine W.condT rfl ?_ | refine W.condF rfl ?_ | refine W.cond rfl (fun h => ?_) (fun h => ?_))
    | ((show AX _ _ _ _ _); first | (refine AX.pcall rfl rfl (by simp only [go_sem, unim_im]; rfl) (by solve_by_elim) rfl rfl ?_; simp only [go_sem, reduceCtorEq, hw, e1]) | (refine AX.pcallF rfl rfl (by simp only [go_sem, unim_im]; rfl) (by simp only [go_sem, unim_im]; rfl) (by solve_by_elim) rfl rfl ?_; simp only [go_sem, reduceCtorEq, hw, e1]))
    | ((show indepK _ _ _ _ = true ∧ _); refine And.intro (by kernel_rfl) ?_)
    | ((show _ ∧ _); refine And.intro (by first | omega | assumption | (simp only [go_sem]; omega) | (simp; omega) | (simp; done)) ?_)
    | (refine hK _ ?_; clear hK K)
    | (clear hK K; refine hK _ ?_; clear hK K)
    | (clear hK K; clear hK K; refine hK _ ?_; clear hK K)
    | (clear hK K; clear hK K; clear hK K; refine hK _ ?_; clear hK K)
    | fail)
  refine W.ret (PostG.ret (Fits.boxLe 2 _ rfl (CLe.nil3 (e := 27)) (Fits.fit [(0, 0), (1, 1), (2, 2)] [2, 3] 3 rfl rfl Fits.rfl)) rfl rfl ?_)
  simp only [St.r, go_sem]
  rfl
theorem shape_r (s : ByteArray) (hs : s.size ≤ 140737488355328) (f : Nat) (ih : ShapeR s f) : ShapeR2 s (f + 1) := by
  intro k a e ha hk hf
  have hw := w64s k (by omega)
  by_cases h1 : k ≥ 4096
  · have hd : decF s (f + 1) k a e = ⟨shp0, k + 1, a, e, 6⟩ := by simp only [decF, if_pos h1]
    rw [hd]
    exact shape_lim s k a e hk h1
  have e1 : decide (((k + 1 : Nat) : Int) > 4096) = false := by simp; omega
  have hd : decF s (f + 1) k a e = if hdE s a e ≠ 0 then ⟨shp0, k + 1, hdA s a e, hdE s a e, hdE s a e⟩ else let r := kidF s f (hdN s a e) (k + 1) (hdA s a e) (hdE s a e) []; if r.err ≠ 0 then ⟨shp0, r.k, r.a, r.e, r.err⟩ else ⟨.mk (txV s a e) (hdO s a e) r.ks, r.k, r.a, r.e, 0⟩ := by rw [decF, if_neg h1]
  have c1 := text_r s a e hs ha
  have c2 := text_r s (txA s a e) (txE s a e) hs (txA_le ha)
  have c3 := count_r s (txA s (txA s a e) (txE s a e)) (txE s (txA s a e) (txE s a e)) hs (txA_le (txA_le ha))
  have c4 := err_r s (hdA s a e) (hdE s a e)
  have hA := hdA_le (e := e) ha
  have hN : hdN s a e ≤ 4096 := cnV_le _ _ _
  rw [show cnA s (txA s (txA s a e) (txE s a e)) (txE s (txA s a e) (txE s a e)) = hdA s a e from rfl, show cnE s (txA s (txA s a e) (txE s a e)) (txE s (txA s a e) (txE s a e)) = hdE s a e from rfl, show cnV s (txA s (txA s a e) (txE s a e)) (txE s (txA s a e) (txE s a e)) = hdN s a e from rfl] at c3
  rw [show txV s (txA s a e) (txE s a e) = hdO s a e from rfl] at c2
  rw [hd]
  clear hd
  generalize hdE s a e = E at *
  generalize hdA s a e = A at *
  generalize hdN s a e = N at *
  generalize hdO s a e = O at *
  simp only [xB, rdB, drT] at *
  by_cases h2 : E = 0
  rotate_left
  · have e2 : (E != 0) = true := by simp [h2]
    rw [if_pos h2]
    simp only [shp0, Shp.av, List.map, avs]
    refine GCall.introG (nt := 67) (rs := [.cell 2 27, .tmp 3]) Try.func42 rfl ⟨by kernel_rfl, by kernel_rfl, by kernel_rfl⟩ (by simp) ?_
    rintro ⟨P, w0, ok0, may, np, pblk⟩ rfl rfl
    simp only [go_sem]
    repeat' (first
      | ((show W _ _ _ _); first | (refine W.seq fun K hK => ?_) | refine W.block ?_ | (refine W.reg rfl ?_; simp only [go_sem, reduceCtorEq, hw, e1]) | (refine W.regD Try_mo rfl rfl ?_; simp only [go_sem, reduceCtorEq, hw, e1]) | (refine W.skip ?_; simp only [go_sem]) | (refine W.exit ?_; simp only [go_sem]) | (refine W.ret (Post.ret ?_); simp only [go_sem, reduceCtorEq, hw, e1]) | refine W.condT rfl ?_ | refine W.condF rfl ?_ | refine W.cond rfl (fun h => ?_) (fun h => ?_))
      | ((show AX _ _ _ _ _); first | (refine AX.pcall rfl rfl (by simp only [go_sem, unim_im]; rfl) (by solve_by_elim) rfl rfl ?_; simp only [go_sem, reduceCtorEq, hw, e1]) | (refine AX.pcallF rfl rfl (by simp only [go_sem, unim_im]; rfl) (by simp only [go_sem, unim_im]; rfl) (by solve_by_elim) rfl rfl ?_; simp only [go_sem, reduceCtorEq, hw, e1]))
      | ((show indepK _ _ _ _ = true ∧ _); refine And.intro (by kernel_rfl) ?_)
      | ((show _ ∧ _); refine And.intro (by first | omega | assumption | (simp only [go_sem]; omega) | (simp; omega) | (simp; done)) ?_)
      | (refine hK _ ?_; clear hK K)
      | (clear hK K; refine hK _ ?_; clear hK K)
      | (clear hK K; clear hK K; refine hK _ ?_; clear hK K)
      | (clear hK K; clear hK K; clear hK K; refine hK _ ?_; clear hK K)
      | fail)
    refine AX.gcall [1] rfl rfl (c1) (by simp only [go_sem, reduceCtorEq]) (by simp only [go_sem, reduceCtorEq]) rfl rfl (by simp only [go_sem, Obj.owns]) rfl (by simp only [go_sem, Obj.owns]) rfl rfl ?_
    simp only [go_sem, reduceCtorEq]
    repeat' (first
      | ((show W _ _ _ _); first | (refine W.seq fun K hK => ?_) | refine W.block ?_ | (refine W.reg rfl ?_; simp only [go_sem, reduceCtorEq]) | (refine W.regD Try_mo rfl rfl ?_; simp only [go_sem, reduceCtorEq]) | (refine W.skip ?_; simp only [go_sem]) | (refine W.exit ?_; simp only [go_sem]) | (refine W.ret (Post.ret ?_); simp only [go_sem, reduceCtorEq]) | refine W.condT rfl ?_ | refine W.condF rfl ?_ | refine W.cond rfl (fun h => ?_) (fun h => ?_))
      | ((show AX _ _ _ _ _); first | (refine AX.pcall rfl rfl (by simp only [go_sem, unim_im]; rfl) (by solve_by_elim) rfl rfl ?_; simp only [go_sem, reduceCtorEq]) | (refine AX.pcallF rfl rfl (by simp only [go_sem, unim_im]; rfl) (by simp only [go_sem, unim_im]; rfl) (by solve_by_elim) rfl rfl ?_; simp only [go_sem, reduceCtorEq]))
      | ((show indepK _ _ _ _ = true ∧ _); refine And.intro (by kernel_rfl) ?_)
      | ((show _ ∧ _); refine And.intro (by first | omega | assumption | (simp only [go_sem]; omega) | (simp; omega) | (simp; done)) ?_)
      | (refine hK _ ?_; clear hK K)
      | (clear hK K; refine hK _ ?_; clear hK K)
      | (clear hK K; clear hK K; refine hK _ ?_; clear hK K)
      | (clear hK K; clear hK K; clear hK K; refine hK _ ?_; clear hK K)
      | fail)
    refine AX.gcall [1] rfl rfl (c2) (by simp only [go_sem, reduceCtorEq]) (by simp only [go_sem, reduceCtorEq]) rfl rfl (by simp only [go_sem, Obj.owns]) rfl (by simp only [go_sem, Obj.owns]) rfl rfl ?_
    simp only [go_sem, reduceCtorEq]
    repeat' (first
      | ((show W _ _ _ _); first | (refine W.seq fun K hK => ?_) | refine W.block ?_ | (refine W.reg rfl ?_; simp only [go_sem, reduceCtorEq]) | (refine W.regD Try_mo rfl rfl ?_; simp only [go_sem, reduceCtorEq]) | (refine W.skip ?_; simp only [go_sem]) | (refine W.exit ?_; simp only [go_sem]) | (refine W.ret (Post.ret ?_); simp only [go_sem, reduceCtorEq]) | refine W.condT rfl ?_ | refine W.condF rfl ?_ | refine W.cond rfl (fun h => ?_) (fun h => ?_))
      | ((show AX _ _ _ _ _); first | (refine AX.pcall rfl rfl (by simp only [go_sem, unim_im]; rfl) (by solve_by_elim) rfl rfl ?_; simp only [go_sem, reduceCtorEq]) | (refine AX.pcallF rfl rfl (by simp only [go_sem, unim_im]; rfl) (by simp only [go_sem, unim_im]; rfl) (by solve_by_elim) rfl rfl ?_; simp only [go_sem, reduceCtorEq]))
      | ((show indepK _ _ _ _ = true ∧ _); refine And.intro (by kernel_rfl) ?_)
      | ((show _ ∧ _); refine And.intro (by first | omega | assumption | (simp only [go_sem]; omega) | (simp; omega) | (simp; done)) ?_)
      | (refine hK _ ?_; clear hK K)
      | (clear hK K; refine hK _ ?_; clear hK K)
      | (clear hK K; clear hK K; refine hK _ ?_; clear hK K)
      | (clear hK K; clear hK K; clear hK K; refine hK _ ?_; clear hK K)
      | fail)
    refine AX.gcall [1] rfl rfl (c3) (by simp only [go_sem, reduceCtorEq]) (by simp only [go_sem, reduceCtorEq]) rfl rfl (by simp only [go_sem, Obj.owns]) rfl (by simp only [go_sem, Obj.owns]) rfl rfl ?_
    simp only [go_sem, reduceCtorEq]
    repeat' (first
      | ((show W _ _ _ _); first | (refine W.seq fun K hK => ?_) | refine W.block ?_ | (refine W.reg rfl ?_; simp only [go_sem, reduceCtorEq]) | (refine W.regD Try_mo rfl rfl ?_; simp only [go_sem, reduceCtorEq]) | (refine W.skip ?_; simp only [go_sem]) | (refine W.exit ?_; simp only [go_sem]) | (refine W.ret (Post.ret ?_); simp only [go_sem, reduceCtorEq]) | refine W.condT rfl ?_ | refine W.condF rfl ?_ | refine W.cond rfl (fun h => ?_) (fun h => ?_))
      | ((show AX _ _ _ _ _); first | (refine AX.pcall rfl rfl (by simp only [go_sem, unim_im]; rfl) (by solve_by_elim) rfl rfl ?_; simp only [go_sem, reduceCtorEq]) | (refine AX.pcallF rfl rfl (by simp only [go_sem, unim_im]; rfl) (by simp only [go_sem, unim_im]; rfl) (by solve_by_elim) rfl rfl ?_; simp only [go_sem, reduceCtorEq]))
      | ((show indepK _ _ _ _ = true ∧ _); refine And.intro (by kernel_rfl) ?_)
      | ((show _ ∧ _); refine And.intro (by first | omega | assumption | (simp only [go_sem]; omega) | (simp; omega) | (simp; done)) ?_)
      | (refine hK _ ?_; clear hK K)
      | (clear hK K; refine hK _ ?_; clear hK K)
      | (clear hK K; clear hK K; refine hK _ ?_; clear hK K)
      | (clear hK K; clear hK K; clear hK K; refine hK _ ?_; clear hK K)
      | fail)
    refine AX.gcall [1] rfl rfl (c4) (by simp only [go_sem, reduceCtorEq]) (by simp only [go_sem, reduceCtorEq]) rfl rfl (by simp only [go_sem, Obj.owns]) rfl (by simp only [go_sem, Obj.owns]) rfl rfl ?_
    simp only [go_sem, reduceCtorEq]
    repeat' (first
      | ((show W _ _ _ _); first | (refine W.seq fun K hK => ?_) | refine W.block ?_ | (refine W.reg rfl ?_; simp only [go_sem, reduceCtorEq, e2]) | (refine W.regD Try_mo rfl rfl ?_; simp only [go_sem, reduceCtorEq, e2]) | (refine W.skip ?_; simp only [go_sem]) | (refine W.exit ?_; simp only [go_sem]) | (refine W.ret (Post.ret ?_); simp only [go_sem, reduceCtorEq, e2]) | refine W.condT rfl ?_ | refine W.condF rfl ?_ | refine W.cond rfl (fun h => ?_) (fun h => ?_))
      | ((show AX _ _ _ _ _); first | (refine AX.pcall rfl rfl (by simp only [go_sem, unim_im]; rfl) (by solve_by_elim) rfl rfl ?_; simp only [go_sem, reduceCtorEq, e2]) | (refine AX.pcallF rfl rfl (by simp only [go_sem, unim_im]; rfl) (by simp only [go_sem, unim_im]; rfl) (by solve_by_elim) rfl rfl ?_; simp only [go_sem, reduceCtorEq, e2]))
      | ((show indepK _ _ _ _ = true ∧ _); refine And.intro (by kernel_rfl) ?_)
      | ((show _ ∧ _); refine And.intro (by first | omega | assumption | (simp only [go_sem]; omega) | (simp; omega) | (simp; done)) ?_)
      | (refine hK _ ?_; clear hK K)
      | (clear hK K; refine hK _ ?_; clear hK K)
      | (clear hK K; clear hK K; refine hK _ ?_; clear hK K)
      | (clear hK K; clear hK K; clear hK K; refine hK _ ?_; clear hK K)
      | fail)
    refine W.ret (PostG.ret (Fits.boxLe 2 _ rfl (CLe.nil3 (e := 27)) (Fits.fit [(0, 0), (1, 1), (2, 2)] [2, 3] 3 rfl rfl Fits.rfl)) rfl rfl ?_)
    simp only [St.r, go_sem]
    rfl
  have e2 : (E != 0) = false := by simp [h2]
  rw [if_neg (by simpa using h2)]
  subst h2
  generalize hr : kidF s f N (k + 1) A 0 [] = r
  refine GCall.introG (nt := 67) (rs := [.cell 2 27, .tmp 3]) Try.func42 rfl ⟨by kernel_rfl, by kernel_rfl, by kernel_rfl⟩ (by simp) ?_
  rintro ⟨P, w0, ok0, may, np, pblk⟩ rfl rfl
  simp only [go_sem]
  repeat' (first
    | ((show W _ _ _ _); first | (refine W.seq fun K hK => ?_) | refine W.block ?_ | (refine W.reg rfl ?_; simp only [go_sem, reduceCtorEq, hw, e1]) | (refine W.regD Try_mo rfl rfl ?_; simp only [go_sem, reduceCtorEq, hw, e1]) | (refine W.skip ?_; simp only [go_sem]) | (refine W.exit ?_; simp only [go_sem]) | (refine W.ret (Post.ret ?_); simp only [go_sem, reduceCtorEq, hw, e1]) | refine W.condT rfl ?_ | refine W.condF rfl ?_ | refine W.cond rfl (fun h => ?_) (fun h => ?_))
    | ((show AX _ _ _ _ _); first | (refine AX.pcall rfl rfl (by simp only [go_sem, unim_im]; rfl) (by solve_by_elim) rfl rfl ?_; simp only [go_sem, reduceCtorEq, hw, e1]) | (refine AX.pcallF rfl rfl (by simp only [go_sem, unim_im]; rfl) (by simp only [go_sem, unim_im]; rfl) (by solve_by_elim) rfl rfl ?_; simp only [go_sem, reduceCtorEq, hw, e1]))
    | ((show indepK _ _ _ _ = true ∧ _); refine And.intro (by kernel_rfl) ?_)
    | ((show _ ∧ _); refine And.intro (by first | omega | assumption | (simp only [go_sem]; omega) | (simp; omega) | (simp; done)) ?_)
    | (refine hK _ ?_; clear hK K)
    | (clear hK K; refine hK _ ?_; clear hK K)
    | (clear hK K; clear hK K; refine hK _ ?_; clear hK K)
    | (clear hK K; clear hK K; clear hK K; refine hK _ ?_; clear hK K)
    | fail)
  refine AX.gcall [1] rfl rfl (c1) (by simp only [go_sem, reduceCtorEq]) (by simp only [go_sem, reduceCtorEq]) rfl rfl (by simp only [go_sem, Obj.owns]) rfl (by simp only [go_sem, Obj.owns]) rfl rfl ?_
  simp only [go_sem, reduceCtorEq]
  repeat' (first
    | ((show W _ _ _ _); first | (refine W.seq fun K hK => ?_) | refine W.block ?_ | (refine W.reg rfl ?_; simp only [go_sem, reduceCtorEq]) | (refine W.regD Try_mo rfl rfl ?_; simp only [go_sem, reduceCtorEq]) | (refine W.skip ?_; simp only [go_sem]) | (refine W.exit ?_; simp only [go_sem]) | (refine W.ret (Post.ret ?_); simp only [go_sem, reduceCtorEq]) | refine W.condT rfl ?_ | refine W.condF rfl ?_ | refine W.cond rfl (fun h => ?_) (fun h => ?_))
    | ((show AX _ _ _ _ _); first | (refine AX.pcall rfl rfl (by simp only [go_sem, unim_im]; rfl) (by solve_by_elim) rfl rfl ?_; simp only [go_sem, reduceCtorEq]) | (refine AX.pcallF rfl rfl (by simp only [go_sem, unim_im]; rfl) (by simp only [go_sem, unim_im]; rfl) (by solve_by_elim) rfl rfl ?_; simp only [go_sem, reduceCtorEq]))
    | ((show indepK _ _ _ _ = true ∧ _); refine And.intro (by kernel_rfl) ?_)
    | ((show _ ∧ _); refine And.intro (by first | omega | assumption | (simp only [go_sem]; omega) | (simp; omega) | (simp; done)) ?_)
    | (refine hK _ ?_; clear hK K)
    | (clear hK K; refine hK _ ?_; clear hK K)
    | (clear hK K; clear hK K; refine hK _ ?_; clear hK K)
    | (clear hK K; clear hK K; clear hK K; refine hK _ ?_; clear hK K)
    | fail)
  refine AX.gcall [1] rfl rfl (c2) (by simp only [go_sem, reduceCtorEq]) (by simp only [go_sem, reduceCtorEq]) rfl rfl (by simp only [go_sem, Obj.owns]) rfl (by simp only [go_sem, Obj.owns]) rfl rfl ?_
  simp only [go_sem, reduceCtorEq]
  repeat' (first
    | ((show W _ _ _ _); first | (refine W.seq fun K hK => ?_) | refine W.block ?_ | (refine W.reg rfl ?_; simp only [go_sem, reduceCtorEq]) | (refine W.regD Try_mo rfl rfl ?_; simp only [go_sem, reduceCtorEq]) | (refine W.skip ?_; simp only [go_sem]) | (refine W.exit ?_; simp only [go_sem]) | (refine W.ret (Post.ret ?_); simp only [go_sem, reduceCtorEq]) | refine W.condT rfl ?_ | refine W.condF rfl ?_ | refine W.cond rfl (fun h => ?_) (fun h => ?_))
    | ((show AX _ _ _ _ _); first | (refine AX.pcall rfl rfl (by simp only [go_sem, unim_im]; rfl) (by solve_by_elim) rfl rfl ?_; simp only [go_sem, reduceCtorEq]) | (refine AX.pcallF rfl rfl (by simp only [go_sem, unim_im]; rfl) (by simp only [go_sem, unim_im]; rfl) (by solve_by_elim) rfl rfl ?_; simp only [go_sem, reduceCtorEq]))
    | ((show indepK _ _ _ _ = true ∧ _); refine And.intro (by kernel_rfl) ?_)
    | ((show _ ∧ _); refine And.intro (by first | omega | assumption | (simp only [go_sem]; omega) | (simp; omega) | (simp; done)) ?_)
    | (refine hK _ ?_; clear hK K)
    | (clear hK K; refine hK _ ?_; clear hK K)
    | (clear hK K; clear hK K; refine hK _ ?_; clear hK K)
    | (clear hK K; clear hK K; clear hK K; refine hK _ ?_; clear hK K)
    | fail)
  refine AX.gcall [1] rfl rfl (c3) (by simp only [go_sem, reduceCtorEq]) (by simp only [go_sem, reduceCtorEq]) rfl rfl (by simp only [go_sem, Obj.owns]) rfl (by simp only [go_sem, Obj.owns]) rfl rfl ?_
  simp only [go_sem, reduceCtorEq]
  repeat' (first
    | ((show W _ _ _ _); first | (refine W.seq fun K hK => ?_) | refine W.block ?_ | (refine W.reg rfl ?_; simp only [go_sem, reduceCtorEq]) | (refine W.regD Try_mo rfl rfl ?_; simp only [go_sem, reduceCtorEq]) | (refine W.skip ?_; simp only [go_sem]) | (refine W.exit ?_; simp only [go_sem]) | (refine W.ret (Post.ret ?_); simp only [go_sem, reduceCtorEq]) | refine W.condT rfl ?_ | refine W.condF rfl ?_ | refine W.cond rfl (fun h => ?_) (fun h => ?_))
    | ((show AX _ _ _ _ _); first | (refine AX.pcall rfl rfl (by simp only [go_sem, unim_im]; rfl) (by solve_by_elim) rfl rfl ?_; simp only [go_sem, reduceCtorEq]) | (refine AX.pcallF rfl rfl (by simp only [go_sem, unim_im]; rfl) (by simp only [go_sem, unim_im]; rfl) (by solve_by_elim) rfl rfl ?_; simp only [go_sem, reduceCtorEq]))
    | ((show indepK _ _ _ _ = true ∧ _); refine And.intro (by kernel_rfl) ?_)
    | ((show _ ∧ _); refine And.intro (by first | omega | assumption | (simp only [go_sem]; omega) | (simp; omega) | (simp; done)) ?_)
    | (refine hK _ ?_; clear hK K)
    | (clear hK K; refine hK _ ?_; clear hK K)
    | (clear hK K; clear hK K; refine hK _ ?_; clear hK K)
    | (clear hK K; clear hK K; clear hK K; refine hK _ ?_; clear hK K)
    | fail)
  refine AX.gcall [1] rfl rfl (c4) (by simp only [go_sem, reduceCtorEq]) (by simp only [go_sem, reduceCtorEq]) rfl rfl (by simp only [go_sem, Obj.owns]) rfl (by simp only [go_sem, Obj.owns]) rfl rfl ?_
  simp only [go_sem, reduceCtorEq]
  repeat' (first
    | ((show W _ _ _ _); first | (refine W.seq fun K hK => ?_) | refine W.block ?_ | (refine W.reg rfl ?_; simp only [go_sem, reduceCtorEq, e2]) | (refine W.regD Try_mo rfl rfl ?_; simp only [go_sem, reduceCtorEq, e2]) | (refine W.skip ?_; simp only [go_sem]) | (refine W.exit ?_; simp only [go_sem]) | (refine W.ret (Post.ret ?_); simp only [go_sem, reduceCtorEq, e2]) | refine W.condT rfl ?_ | refine W.condF rfl ?_ | refine W.cond rfl (fun h => ?_) (fun h => ?_))
    | ((show AX _ _ _ _ _); first | (refine AX.pcall rfl rfl (by simp only [go_sem, unim_im]; rfl) (by solve_by_elim) rfl rfl ?_; simp only [go_sem, reduceCtorEq, e2]) | (refine AX.pcallF rfl rfl (by simp only [go_sem, unim_im]; rfl) (by simp only [go_sem, unim_im]; rfl) (by solve_by_elim) rfl rfl ?_; simp only [go_sem, reduceCtorEq, e2]))
    | ((show indepK _ _ _ _ = true ∧ _); refine And.intro (by kernel_rfl) ?_)
    | ((show _ ∧ _); refine And.intro (by first | omega | assumption | (simp only [go_sem]; omega) | (simp; omega) | (simp; done)) ?_)
    | (refine hK _ ?_; clear hK K)
    | (clear hK K; refine hK _ ?_; clear hK K)
    | (clear hK K; clear hK K; refine hK _ ?_; clear hK K)
    | (clear hK K; clear hK K; clear hK K; refine hK _ ?_; clear hK K)
    | fail)
  refine W.loopF (T := fun x : Nat × Nat × Nat × Int × List Shp => { t := [(0, .c (.ptr 0 0)), (2, .c (.ptr 2 0)), (3, ft (.int .i64 0)), (4, .c (.ptr 3 0)), (47, ft (.int .i64 (N : Nat))), (48, ft (.int .i64 (x.1 : Nat)))], h := [(0, .box 75 [.ptr 1 0, fl (.int .i64 (x.2.1 : Nat))]), (1, .box 80 [fl (.string s), fl (.int .i64 (x.2.2.1 : Nat)), fl (.int .i64 x.2.2.2.1)]), (2, .box 27 [fl (.string .empty), fl (.string .empty), fl (.slice none 0 0)]), (3, .box 27 [fl (.string (txV s a e)), fl (.string O), .ref 4]), (4, .row 27 (imR (x.2.2.2.2.map Shp.av)))], nx := 5, ex := [], nt := 67 })
    (Inv := fun x => x.1 ≤ N ∧ x.2.1 ≤ 4096 ∧ x.2.2.1 ≤ s.size ∧ k + 1 ≤ x.2.1 ∧ kidF s f (N - x.1) x.2.1 x.2.2.1 x.2.2.2.1 x.2.2.2.2 = r ∧ x.2.2.2.2.length ≤ x.1) (μ := fun x => N - x.1) (x0 := (0, k + 1, A, 0, [])) ?_ ⟨Nat.zero_le _, by simp only; omega, hA, Nat.le_refl _, hr, Nat.zero_le _⟩ ?_
  · refine Fits.adoptB 28 27 _ 2 99 27 rfl rfl rfl rfl tE27 rfl ?_
    refine Fits.fit [(0, 0), (1, 1), (2, 2), (28, 3), (99, 4)] [0, 2, 3, 4, 47, 48] 5 rfl rfl ?_
    simp only [go_sem, List.map_nil, imR_nil]
    exact Fits.rfl
  rintro ⟨i, k1, a1, e1', acc⟩ ⟨hi, hk1, ha1, hk2, hinv, hlen⟩ KL hKL
  simp only at hi hk1 ha1 hk2 hinv hlen ⊢
  by_cases hlt : i < N
  rotate_left
  · have g0 : decide ((i : Int) < (N : Int)) = false := by simp; omega
    obtain rfl : i = N := by omega
    rw [Nat.sub_self, kidF] at hinv
    subst hinv
    clear hKL
    repeat' (first
      | ((show W _ _ _ _); first | (refine W.seq fun K hK => ?_) | refine W.block ?_ | (refine W.reg rfl ?_; simp only [go_sem, reduceCtorEq, g0]) | (refine W.regD Try_mo rfl rfl ?_; simp only [go_sem, reduceCtorEq, g0]) | (refine W.skip ?_; simp only [go_sem]) | (refine W.exit ?_; simp only [go_sem]) | (refine W.ret (Post.ret ?_); simp only [go_sem, reduceCtorEq, g0]) | refine W.condT rfl ?_ | refine W.condF rfl ?_ | refine W.cond rfl (fun h => ?_) (fun h => ?_))
      | ((show AX _ _ _ _ _); first | (refine AX.pcall rfl rfl (by simp only [go_sem, unim_im]; rfl) (by solve_by_elim) rfl rfl ?_; simp only [go_sem, reduceCtorEq, g0]) | (refine AX.pcallF rfl rfl (by simp only [go_sem, unim_im]; rfl) (by simp only [go_sem, unim_im]; rfl) (by solve_by_elim) rfl rfl ?_; simp only [go_sem, reduceCtorEq, g0]))
      | ((show indepK _ _ _ _ = true ∧ _); refine And.intro (by kernel_rfl) ?_)
      | ((show _ ∧ _); refine And.intro (by first | omega | assumption | (simp only [go_sem]; omega) | (simp; omega) | (simp; done)) ?_)
      | (refine hK _ ?_; clear hK K)
      | (clear hK K; refine hK _ ?_; clear hK K)
      | (clear hK K; clear hK K; refine hK _ ?_; clear hK K)
      | (clear hK K; clear hK K; clear hK K; refine hK _ ?_; clear hK K)
      | fail)
    refine W.ret (PostG.ret (Fits.freeze 4 rfl (unim_im _) (Fits.seeO 2 4 rfl rfl (Fits.fit [(0, 0), (1, 1), (2, 2)] [2, 3] 3 rfl rfl Fits.rfl))) rfl rfl ?_)
    simp only [St.r, go_sem, avs_map, Shp.av, List.map, ne_eq, not_true_eq_false, if_false]
    rfl
  have g0 : decide ((i : Int) < (N : Int)) = true := by simp; omega
  have hw2 := w64s i (by omega)
  have hc := ih k1 a1 e1' ha1 hk1 (by omega)
  obtain ⟨m, hm⟩ : ∃ m, N - i = m + 1 := ⟨N - i - 1, by omega⟩
  have hok := decF_ok s f k1 a1 e1' ha1 hk1
  rw [hm, kidF] at hinv
  generalize decF s f k1 a1 e1' = c at *
  obtain ⟨⟨s', o', ks'⟩, k3, a3, e3, err⟩ := c
  simp only [drT, Shp.av, List.map, xB, rdB] at hc hinv hok
  by_cases herr : err = 0
  rotate_left
  · have g1 : (err != 0) = true := by simp [herr]
    rw [if_pos herr] at hinv
    subst hinv
    clear hKL
    repeat' (first
      | ((show W _ _ _ _); first | (refine W.seq fun K hK => ?_) | refine W.block ?_ | (refine W.reg rfl ?_; simp only [go_sem, reduceCtorEq, g0]) | (refine W.regD Try_mo rfl rfl ?_; simp only [go_sem, reduceCtorEq, g0]) | (refine W.skip ?_; simp only [go_sem]) | (refine W.exit ?_; simp only [go_sem]) | (refine W.ret (Post.ret ?_); simp only [go_sem, reduceCtorEq, g0]) | refine W.condT rfl ?_ | refine W.condF rfl ?_ | refine W.cond rfl (fun h => ?_) (fun h => ?_))
      | ((show AX _ _ _ _ _); first | (refine AX.pcall rfl rfl (by simp only [go_sem, unim_im]; rfl) (by solve_by_elim) rfl rfl ?_; simp only [go_sem, reduceCtorEq, g0]) | (refine AX.pcallF rfl rfl (by simp only [go_sem, unim_im]; rfl) (by simp only [go_sem, unim_im]; rfl) (by solve_by_elim) rfl rfl ?_; simp only [go_sem, reduceCtorEq, g0]))
      | ((show indepK _ _ _ _ = true ∧ _); refine And.intro (by kernel_rfl) ?_)
      | ((show _ ∧ _); refine And.intro (by first | omega | assumption | (simp only [go_sem]; omega) | (simp; omega) | (simp; done)) ?_)
      | (refine hK _ ?_; clear hK K)
      | (clear hK K; refine hK _ ?_; clear hK K)
      | (clear hK K; clear hK K; refine hK _ ?_; clear hK K)
      | (clear hK K; clear hK K; clear hK K; refine hK _ ?_; clear hK K)
      | fail)
    refine AX.gcall [0, 1] rfl rfl (hc) (by simp only [go_sem, reduceCtorEq]) (by simp only [go_sem, reduceCtorEq]) rfl rfl (by simp only [go_sem, Obj.owns]) rfl (by simp only [go_sem, Obj.owns]) rfl rfl ?_
    simp only [go_sem, reduceCtorEq]
    repeat' (first
      | ((show W _ _ _ _); first | (refine W.seq fun K hK => ?_) | refine W.block ?_ | (refine W.reg rfl ?_; simp only [go_sem, reduceCtorEq, g1]) | (refine W.regD Try_mo rfl rfl ?_; simp only [go_sem, reduceCtorEq, g1]) | (refine W.skip ?_; simp only [go_sem]) | (refine W.exit ?_; simp only [go_sem]) | (refine W.ret (Post.ret ?_); simp only [go_sem, reduceCtorEq, g1]) | refine W.condT rfl ?_ | refine W.condF rfl ?_ | refine W.cond rfl (fun h => ?_) (fun h => ?_))
      | ((show AX _ _ _ _ _); first | (refine AX.pcall rfl rfl (by simp only [go_sem, unim_im]; rfl) (by solve_by_elim) rfl rfl ?_; simp only [go_sem, reduceCtorEq, g1]) | (refine AX.pcallF rfl rfl (by simp only [go_sem, unim_im]; rfl) (by simp only [go_sem, unim_im]; rfl) (by solve_by_elim) rfl rfl ?_; simp only [go_sem, reduceCtorEq, g1]))
      | ((show indepK _ _ _ _ = true ∧ _); refine And.intro (by kernel_rfl) ?_)
      | ((show _ ∧ _); refine And.intro (by first | omega | assumption | (simp only [go_sem]; omega) | (simp; omega) | (simp; done)) ?_)
      | (refine hK _ ?_; clear hK K)
      | (clear hK K; refine hK _ ?_; clear hK K)
      | (clear hK K; clear hK K; refine hK _ ?_; clear hK K)
      | (clear hK K; clear hK K; clear hK K; refine hK _ ?_; clear hK K)
      | fail)
    refine W.ret (PostG.ret (Fits.boxLe 2 _ rfl (CLe.nil3 (e := 27)) (Fits.fit [(0, 0), (1, 1), (2, 2)] [2, 3] 3 rfl rfl Fits.rfl)) rfl rfl ?_)
    simp only [St.r, go_sem, shp0, avs, Shp.av, List.map, ne_eq, herr, not_false_eq_true, if_true]
    rfl
  have g1 : (err != 0) = false := by simp [herr]
  rw [if_neg (by simpa using herr)] at hinv
  clear hK
  repeat' (first
    | ((show W _ _ _ _); first | (refine W.seq fun K hK => ?_) | refine W.block ?_ | (refine W.reg rfl ?_; simp only [go_sem, reduceCtorEq, g0]) | (refine W.regD Try_mo rfl rfl ?_; simp only [go_sem, reduceCtorEq, g0]) | (refine W.skip ?_; simp only [go_sem]) | (refine W.exit ?_; simp only [go_sem]) | (refine W.ret (Post.ret ?_); simp only [go_sem, reduceCtorEq, g0]) | refine W.condT rfl ?_ | refine W.condF rfl ?_ | refine W.cond rfl (fun h => ?_) (fun h => ?_))
    | ((show AX _ _ _ _ _); first | (refine AX.pcall rfl rfl (by simp only [go_sem, unim_im]; rfl) (by solve_by_elim) rfl rfl ?_; simp only [go_sem, reduceCtorEq, g0]) | (refine AX.pcallF rfl rfl (by simp only [go_sem, unim_im]; rfl) (by simp only [go_sem, unim_im]; rfl) (by solve_by_elim) rfl rfl ?_; simp only [go_sem, reduceCtorEq, g0]))
    | ((show indepK _ _ _ _ = true ∧ _); refine And.intro (by kernel_rfl) ?_)
    | ((show _ ∧ _); refine And.intro (by first | omega | assumption | (simp only [go_sem]; omega) | (simp; omega) | (simp; done)) ?_)
    | (refine hK _ ?_; clear hK K)
    | (clear hK K; refine hK _ ?_; clear hK K)
    | (clear hK K; clear hK K; refine hK _ ?_; clear hK K)
    | (clear hK K; clear hK K; clear hK K; refine hK _ ?_; clear hK K)
    | fail)
  refine AX.gcall [0, 1] rfl rfl (hc) (by simp only [go_sem, reduceCtorEq]) (by simp only [go_sem, reduceCtorEq]) rfl rfl (by simp only [go_sem, Obj.owns]) rfl (by simp only [go_sem, Obj.owns]) rfl rfl ?_
  simp only [go_sem, reduceCtorEq]
  repeat' (first
    | ((show W _ _ _ _); first | (refine W.seq fun K hK => ?_) | refine W.block ?_ | (refine W.reg rfl ?_; simp only [go_sem, reduceCtorEq, g1, hw2]) | (refine W.regD Try_mo rfl rfl ?_; simp only [go_sem, reduceCtorEq, g1, hw2]) | (refine W.skip ?_; simp only [go_sem]) | (refine W.exit ?_; simp only [go_sem]) | (refine W.ret (Post.ret ?_); simp only [go_sem, reduceCtorEq, g1, hw2]) | refine W.condT rfl ?_ | refine W.condF rfl ?_ | refine W.cond rfl (fun h => ?_) (fun h => ?_))
    | ((show AX _ _ _ _ _); first | (refine AX.pcall rfl rfl (by simp only [go_sem, unim_im]; rfl) (by solve_by_elim) rfl rfl ?_; simp only [go_sem, reduceCtorEq, g1, hw2]) | (refine AX.pcallF rfl rfl (by simp only [go_sem, unim_im]; rfl) (by simp only [go_sem, unim_im]; rfl) (by solve_by_elim) rfl rfl ?_; simp only [go_sem, reduceCtorEq, g1, hw2]))
    | ((show indepK _ _ _ _ = true ∧ _); refine And.intro (by kernel_rfl) ?_)
    | ((show _ ∧ _); refine And.intro (by first | omega | assumption | (simp only [go_sem]; omega) | (simp; omega) | (simp; done)) ?_)
    | (refine hK _ ?_; clear hK K)
    | (clear hK K; refine hK _ ?_; clear hK K)
    | (clear hK K; clear hK K; refine hK _ ?_; clear hK K)
    | (clear hK K; clear hK K; clear hK K; refine hK _ ?_; clear hK K)
    | fail)
  refine hKL.to (i + 1, k3, a3, e3, acc ++ [.mk s' o' ks']) ⟨by simp only; omega, hok.2.2 herr, hok.1, by simp only; omega, ?_, by simp only [List.length_append, List.length_cons, List.length_nil]; omega⟩ (by simp only; omega) (Fits.fit [(0, 0), (1, 1), (2, 2), (3, 3), (20, 4)] [0, 2, 3, 4, 47, 48] 5 rfl rfl ?_)
  · rw [show N - (i + 1) = m by omega]; exact hinv
  · simp only [go_sem, List.map_append, List.map_cons, List.map_nil, imR_app, imR_one, imL, Shp.av]
    exact Fits.rfl
theorem shape_all (s : ByteArray) (hs : s.size ≤ 140737488355328) : ∀ f, ShapeR s f
  | 0 => ShapeR2.drop fun k a e ha hk hf => by
    have hd : decF s 0 k a e = ⟨shp0, k + 1, a, e, 6⟩ := by simp only [decF]
    rw [hd]
    exact shape_lim s k a e hk (by omega)
  | f + 1 => (shape_r s hs f (shape_all s hs f)).drop
end Go.Proofs.Ytegcmciglakicaa
namespace Go.Proofs.Ytegcmciglakicaa
open Go.RowKit Go.Exe
set_option linter.unusedVariables false
set_option linter.unusedSimpArgs false
set_option maxHeartbeats 1000000
set_option maxRecDepth 100000
attribute [local irreducible] W AX Run RunD AStep AOp AOpX AStB AStH AStG Fits PCall GCall PostG Post Stop

def dmT (r : DR) : TV := .t [(true, r.x.av.map .im), (false, [fl (.int .i64 ((if r.err = 0 then 4096 - r.k else 0 : Nat) : Int))]), (false, [fl (.int .i64 r.err)])]
def DR.M (s : ByteArray) (k a : Nat) (e : Int) (r : DR) : Prop :=
  GCall Try.prog 30 1 (St.g [.c (.ptr 0 0), ft (.int .i64 (4096 - k : Nat))] [(0, rdB s a e)] 1) (St.r (dmT r) [(0, rdB s r.a r.e), (1, .box 27 (r.x.av.map .im))] 2)
def DecM (s : ByteArray) (f : Nat) : Prop := ∀ (k a : Nat) (e : Int), a ≤ s.size → k ≤ 4096 → 4096 ≤ k + f →
  GCall Try.prog 30 1 (St.g [.c (.ptr 0 0), ft (.int .i64 (4096 - k : Nat))] [(0, rdB s a e)] 1) (St.r (dmT (decF s f k a e)) [(0, rdB s (decF s f k a e).a (decF s f k a e).e)] 1)
theorem DR.M.drop {s : ByteArray} {k a : Nat} {e : Int} {r : DR} (h : r.M s k a e) : GCall Try.prog 30 1 (St.g [.c (.ptr 0 0), ft (.int .i64 (4096 - k : Nat))] [(0, rdB s a e)] 1) (St.r (dmT r) [(0, rdB s r.a r.e)] 1) := by
  refine GCall.post h fun C hC hn => Fits.fit [(0, 0)] [0] 1 rfl (by rw [hn]; rfl) ?_
  obtain ⟨⟨s', o', ks'⟩, k', a', e', err⟩ := r
  simp only [St.r, go_sem, dmT, Shp.av, List.map, rdB]
  exact Fits.rfl
theorem decode_lim (s : ByteArray) (k a : Nat) (e : Int) (hk : k ≤ 4096) (h1 : k ≥ 4096) : DR.M s k a e ⟨shp0, k + 1, a, e, 6⟩ := by
  have e1 : (((4096 - k : Nat) : Int) == 0) = true := by simp; omega
  unfold DR.M
  simp only [rdB, dmT, shp0, Shp.av, List.map, avs]
  refine GCall.introG (nt := 57) (rs := [.cell 4 27, .tmp 5, .tmp 6]) Try.func30 rfl ⟨by kernel_rfl, by kernel_rfl, by kernel_rfl⟩ (by simp) ?_
  rintro ⟨P, w0, ok0, may, np, pblk⟩ rfl rfl
  simp only [go_sem]
  repeat' (first
    | ((show W _ _ _ _); first | (refine W.seq fun K hK => ?_) | refine W.block ?_ | (refine W.reg rfl ?_; simp only [go_sem, reduceCtorEq, e1]) | (refine W.regD Try_mo rfl rfl ?_; simp only [go_sem, reduceCtorEq, e1]) | (refine W.skip ?_; simp only [go_sem]) | (refine W.exit ?_; simp only [go_sem]) | (refine W.ret (Post.ret ?_); simp only [go_sem, reduceCtorEq, e1]) | refine W.condT rfl ?_ | refine W.condF rfl ?_ | refine W.cond rfl (fun h => ?_) (fun h => ?_))
    | ((show AX _ _ _ _ _); first | (refine AX.pcall rfl rfl (by simp only [go_sem, unim_im]; rfl) (by solve_by_elim) rfl rfl ?_; simp only [go_sem, reduceCtorEq, e1]) | (refine AX.pcallF rfl rfl (by simp only [go_sem, unim_im]; rfl) (by simp only [go_sem, unim_im]; rfl) (by solve_by_elim) rfl rfl ?_; simp only [go_sem, reduceCtorEq, e1]))
    | ((show indepK _ _ _ _ = true ∧ _); refine And.intro (by kernel_rfl) ?_)
    | ((show _ ∧ _); refine And.intro (by first | omega | assumption | (simp only [go_sem]; omega) | (simp; omega) | (simp; done)) ?_)
    | (refine hK _ ?_; clear hK K)
    | (clear hK K; refine hK _ ?_; clear hK K)
    | (clear hK K; clear hK K; refine hK _ ?_; clear hK K)
    | (clear hK K; clear hK K; clear hK K; refine hK _ ?_; clear hK K)
    | fail)
  refine W.ret (PostG.ret (Fits.boxLe 1 _ rfl (CLe.nil3 (e := 27)) (Fits.fit [(0, 0), (1, 1)] [4, 5, 6] 2 rfl rfl Fits.rfl)) rfl rfl ?_)
  simp only [St.r, go_sem]
  rfl
theorem decode_m (s : ByteArray) (hs : s.size ≤ 140737488355328) (f : Nat) (ih : DecM s f) (k a : Nat) (e : Int) (ha : a ≤ s.size) (hk : k ≤ 4096) (hf : 4096 ≤ k + (f + 1)) : (decF s (f + 1) k a e).M s k a e := by
  by_cases h1 : k ≥ 4096
  · have hd : decF s (f + 1) k a e = ⟨shp0, k + 1, a, e, 6⟩ := by simp only [decF, if_pos h1]
    rw [hd]
    exact decode_lim s k a e hk h1
  have e1 : (((4096 - k : Nat) : Int) == 0) = false := by simp; omega
  have hw : IntKind.i64.wrap (((4096 - k : Nat) : Int) - 1) = ((4096 - (k + 1) : Nat) : Int) := by rw [w64 (by omega) (by omega)]; omega
  have hd : decF s (f + 1) k a e = if hdE s a e ≠ 0 then ⟨shp0, k + 1, hdA s a e, hdE s a e, hdE s a e⟩ else let r := kidF s f (hdN s a e) (k + 1) (hdA s a e) (hdE s a e) []; if r.err ≠ 0 then ⟨shp0, r.k, r.a, r.e, r.err⟩ else ⟨.mk (txV s a e) (hdO s a e) r.ks, r.k, r.a, r.e, 0⟩ := by rw [decF, if_neg h1]
  have c1 := text_r s a e hs ha
  have c2 := text_r s (txA s a e) (txE s a e) hs (txA_le ha)
  have c3 := count_r s (txA s (txA s a e) (txE s a e)) (txE s (txA s a e) (txE s a e)) hs (txA_le (txA_le ha))
  have c4 := err_r s (hdA s a e) (hdE s a e)
  have hA := hdA_le (e := e) ha
  have hN : hdN s a e ≤ 4096 := cnV_le _ _ _
  rw [show cnA s (txA s (txA s a e) (txE s a e)) (txE s (txA s a e) (txE s a e)) = hdA s a e from rfl, show cnE s (txA s (txA s a e) (txE s a e)) (txE s (txA s a e) (txE s a e)) = hdE s a e from rfl, show cnV s (txA s (txA s a e) (txE s a e)) (txE s (txA s a e) (txE s a e)) = hdN s a e from rfl] at c3
  rw [show txV s (txA s a e) (txE s a e) = hdO s a e from rfl] at c2
  rw [hd]
  clear hd
  unfold DR.M
  generalize hdE s a e = E at *
  generalize hdA s a e = A at *
  generalize hdN s a e = N at *
  generalize hdO s a e = O at *
  simp only [rdB, dmT] at *
  by_cases h2 : E = 0
  rotate_left
  · have e2 : (E != 0) = true := by simp [h2]
    rw [if_pos h2]
    simp only [shp0, Shp.av, List.map, avs, if_neg h2]
    refine GCall.introG (nt := 57) (rs := [.cell 4 27, .tmp 5, .tmp 6]) Try.func30 rfl ⟨by kernel_rfl, by kernel_rfl, by kernel_rfl⟩ (by simp) ?_
    rintro ⟨P, w0, ok0, may, np, pblk⟩ rfl rfl
    simp only [go_sem]
    repeat' (first
      | ((show W _ _ _ _); first | (refine W.seq fun K hK => ?_) | refine W.block ?_ | (refine W.reg rfl ?_; simp only [go_sem, reduceCtorEq, e1]) | (refine W.regD Try_mo rfl rfl ?_; simp only [go_sem, reduceCtorEq, e1]) | (refine W.skip ?_; simp only [go_sem]) | (refine W.exit ?_; simp only [go_sem]) | (refine W.ret (Post.ret ?_); simp only [go_sem, reduceCtorEq, e1]) | refine W.condT rfl ?_ | refine W.condF rfl ?_ | refine W.cond rfl (fun h => ?_) (fun h => ?_))
      | ((show AX _ _ _ _ _); first | (refine AX.pcall rfl rfl (by simp only [go_sem, unim_im]; rfl) (by solve_by_elim) rfl rfl ?_; simp only [go_sem, reduceCtorEq, e1]) | (refine AX.pcallF rfl rfl (by simp only [go_sem, unim_im]; rfl) (by simp only [go_sem, unim_im]; rfl) (by solve_by_elim) rfl rfl ?_; simp only [go_sem, reduceCtorEq, e1]))
      | ((show indepK _ _ _ _ = true ∧ _); refine And.intro (by kernel_rfl) ?_)
      | ((show _ ∧ _); refine And.intro (by first | omega | assumption | (simp only [go_sem]; omega) | (simp; omega) | (simp; done)) ?_)
      | (refine hK _ ?_; clear hK K)
      | (clear hK K; refine hK _ ?_; clear hK K)
      | (clear hK K; clear hK K; refine hK _ ?_; clear hK K)
      | (clear hK K; clear hK K; clear hK K; refine hK _ ?_; clear hK K)
      | fail)
    refine AX.gcall [0] rfl rfl (c1) (by simp only [go_sem, reduceCtorEq]) (by simp only [go_sem, reduceCtorEq]) rfl rfl (by simp only [go_sem, Obj.owns]) rfl (by simp only [go_sem, Obj.owns]) rfl rfl ?_
    simp only [go_sem, reduceCtorEq]
    repeat' (first
      | ((show W _ _ _ _); first | (refine W.seq fun K hK => ?_) | refine W.block ?_ | (refine W.reg rfl ?_; simp only [go_sem, reduceCtorEq]) | (refine W.regD Try_mo rfl rfl ?_; simp only [go_sem, reduceCtorEq]) | (refine W.skip ?_; simp only [go_sem]) | (refine W.exit ?_; simp only [go_sem]) | (refine W.ret (Post.ret ?_); simp only [go_sem, reduceCtorEq]) | refine W.condT rfl ?_ | refine W.condF rfl ?_ | refine W.cond rfl (fun h => ?_) (fun h => ?_))
      | ((show AX _ _ _ _ _); first | (refine AX.pcall rfl rfl (by simp only [go_sem, unim_im]; rfl) (by solve_by_elim) rfl rfl ?_; simp only [go_sem, reduceCtorEq]) | (refine AX.pcallF rfl rfl (by simp only [go_sem, unim_im]; rfl) (by simp only [go_sem, unim_im]; rfl) (by solve_by_elim) rfl rfl ?_; simp only [go_sem, reduceCtorEq]))
      | ((show indepK _ _ _ _ = true ∧ _); refine And.intro (by kernel_rfl) ?_)
      | ((show _ ∧ _); refine And.intro (by first | omega | assumption | (simp only [go_sem]; omega) | (simp; omega) | (simp; done)) ?_)
      | (refine hK _ ?_; clear hK K)
      | (clear hK K; refine hK _ ?_; clear hK K)
      | (clear hK K; clear hK K; refine hK _ ?_; clear hK K)
      | (clear hK K; clear hK K; clear hK K; refine hK _ ?_; clear hK K)
      | fail)
    refine AX.gcall [0] rfl rfl (c2) (by simp only [go_sem, reduceCtorEq]) (by simp only [go_sem, reduceCtorEq]) rfl rfl (by simp only [go_sem, Obj.owns]) rfl (by simp only [go_sem, Obj.owns]) rfl rfl ?_
    simp only [go_sem, reduceCtorEq]
    repeat' (first
      | ((show W _ _ _ _); first | (refine W.seq fun K hK => ?_) | refine W.block ?_ | (refine W.reg rfl ?_; simp only [go_sem, reduceCtorEq]) | (refine W.regD Try_mo rfl rfl ?_; simp only [go_sem, reduceCtorEq]) | (refine W.skip ?_; simp only [go_sem]) | (refine W.exit ?_; simp only [go_sem]) | (refine W.ret (Post.ret ?_); simp only [go_sem, reduceCtorEq]) | refine W.condT rfl ?_ | refine W.condF rfl ?_ | refine W.cond rfl (fun h => ?_) (fun h => ?_))
      | ((show AX _ _ _ _ _); first | (refine AX.pcall rfl rfl (by simp only [go_sem, unim_im]; rfl) (by solve_by_elim) rfl rfl ?_; simp only [go_sem, reduceCtorEq]) | (refine AX.pcallF rfl rfl (by simp only [go_sem, unim_im]; rfl) (by simp only [go_sem, unim_im]; rfl) (by solve_by_elim) rfl rfl ?_; simp only [go_sem, reduceCtorEq]))
      | ((show indepK _ _ _ _ = true ∧ _); refine And.intro (by kernel_rfl) ?_)
      | ((show _ ∧ _); refine And.intro (by first | omega | assumption | (simp only [go_sem]; omega) | (simp; omega) | (simp; done)) ?_)
      | (refine hK _ ?_; clear hK K)
      | (clear hK K; refine hK _ ?_; clear hK K)
      | (clear hK K; clear hK K; refine hK _ ?_; clear hK K)
      | (clear hK K; clear hK K; clear hK K; refine hK _ ?_; clear hK K)
      | fail)
    refine AX.gcall [0] rfl rfl (c3) (by simp only [go_sem, reduceCtorEq]) (by simp only [go_sem, reduceCtorEq]) rfl rfl (by simp only [go_sem, Obj.owns]) rfl (by simp only [go_sem, Obj.owns]) rfl rfl ?_
    simp only [go_sem, reduceCtorEq]
    repeat' (first
      | ((show W _ _ _ _); first | (refine W.seq fun K hK => ?_) | refine W.block ?_ | (refine W.reg rfl ?_; simp only [go_sem, reduceCtorEq, hw]) | (refine W.regD Try_mo rfl rfl ?_; simp only [go_sem, reduceCtorEq, hw]) | (refine W.skip ?_; simp only [go_sem]) | (refine W.exit ?_; simp only [go_sem]) | (refine W.ret (Post.ret ?_); simp only [go_sem, reduceCtorEq, hw]) | refine W.condT rfl ?_ | refine W.condF rfl ?_ | refine W.cond rfl (fun h => ?_) (fun h => ?_))
      | ((show AX _ _ _ _ _); first | (refine AX.pcall rfl rfl (by simp only [go_sem, unim_im]; rfl) (by solve_by_elim) rfl rfl ?_; simp only [go_sem, reduceCtorEq, hw]) | (refine AX.pcallF rfl rfl (by simp only [go_sem, unim_im]; rfl) (by simp only [go_sem, unim_im]; rfl) (by solve_by_elim) rfl rfl ?_; simp only [go_sem, reduceCtorEq, hw]))
      | ((show indepK _ _ _ _ = true ∧ _); refine And.intro (by kernel_rfl) ?_)
      | ((show _ ∧ _); refine And.intro (by first | omega | assumption | (simp only [go_sem]; omega) | (simp; omega) | (simp; done)) ?_)
      | (refine hK _ ?_; clear hK K)
      | (clear hK K; refine hK _ ?_; clear hK K)
      | (clear hK K; clear hK K; refine hK _ ?_; clear hK K)
      | (clear hK K; clear hK K; clear hK K; refine hK _ ?_; clear hK K)
      | fail)
    refine AX.gcall [0] rfl rfl (c4) (by simp only [go_sem, reduceCtorEq]) (by simp only [go_sem, reduceCtorEq]) rfl rfl (by simp only [go_sem, Obj.owns]) rfl (by simp only [go_sem, Obj.owns]) rfl rfl ?_
    simp only [go_sem, reduceCtorEq]
    repeat' (first
      | ((show W _ _ _ _); first | (refine W.seq fun K hK => ?_) | refine W.block ?_ | (refine W.reg rfl ?_; simp only [go_sem, reduceCtorEq, e2]) | (refine W.regD Try_mo rfl rfl ?_; simp only [go_sem, reduceCtorEq, e2]) | (refine W.skip ?_; simp only [go_sem]) | (refine W.exit ?_; simp only [go_sem]) | (refine W.ret (Post.ret ?_); simp only [go_sem, reduceCtorEq, e2]) | refine W.condT rfl ?_ | refine W.condF rfl ?_ | refine W.cond rfl (fun h => ?_) (fun h => ?_))
      | ((show AX _ _ _ _ _); first | (refine AX.pcall rfl rfl (by simp only [go_sem, unim_im]; rfl) (by solve_by_elim) rfl rfl ?_; simp only [go_sem, reduceCtorEq, e2]) | (refine AX.pcallF rfl rfl (by simp only [go_sem, unim_im]; rfl) (by simp only [go_sem, unim_im]; rfl) (by solve_by_elim) rfl rfl ?_; simp only [go_sem, reduceCtorEq, e2]))
      | ((show indepK _ _ _ _ = true ∧ _); refine And.intro (by kernel_rfl) ?_)
      | ((show _ ∧ _); refine And.intro (by first | omega | assumption | (simp only [go_sem]; omega) | (simp; omega) | (simp; done)) ?_)
      | (refine hK _ ?_; clear hK K)
      | (clear hK K; refine hK _ ?_; clear hK K)
      | (clear hK K; clear hK K; refine hK _ ?_; clear hK K)
      | (clear hK K; clear hK K; clear hK K; refine hK _ ?_; clear hK K)
      | fail)
    refine W.ret (PostG.ret (Fits.boxLe 1 _ rfl (CLe.nil3 (e := 27)) (Fits.fit [(0, 0), (1, 1)] [4, 5, 6] 2 rfl rfl Fits.rfl)) rfl rfl ?_)
    simp only [St.r, go_sem]
    rfl
  have e2 : (E != 0) = false := by simp [h2]
  rw [if_neg (by simpa using h2)]
  subst h2
  generalize hr : kidF s f N (k + 1) A 0 [] = r
  refine GCall.introG (nt := 57) (rs := [.cell 4 27, .tmp 5, .tmp 6]) Try.func30 rfl ⟨by kernel_rfl, by kernel_rfl, by kernel_rfl⟩ (by simp) ?_
  rintro ⟨P, w0, ok0, may, np, pblk⟩ rfl rfl
  simp only [go_sem]
  repeat' (first
    | ((show W _ _ _ _); first | (refine W.seq fun K hK => ?_) | refine W.block ?_ | (refine W.reg rfl ?_; simp only [go_sem, reduceCtorEq, e1]) | (refine W.regD Try_mo rfl rfl ?_; simp only [go_sem, reduceCtorEq, e1]) | (refine W.skip ?_; simp only [go_sem]) | (refine W.exit ?_; simp only [go_sem]) | (refine W.ret (Post.ret ?_); simp only [go_sem, reduceCtorEq, e1]) | refine W.condT rfl ?_ | refine W.condF rfl ?_ | refine W.cond rfl (fun h => ?_) (fun h => ?_))
    | ((show AX _ _ _ _ _); first | (refine AX.pcall rfl rfl (by simp only [go_sem, unim_im]; rfl) (by solve_by_elim) rfl rfl ?_; simp only [go_sem, reduceCtorEq, e1]) | (refine AX.pcallF rfl rfl (by simp only [go_sem, unim_im]; rfl) (by simp only [go_sem, unim_im]; rfl) (by solve_by_elim) rfl rfl ?_; simp only [go_sem, reduceCtorEq, e1]))
    | ((show indepK _ _ _ _ = true ∧ _); refine And.intro (by kernel_rfl) ?_)
    | ((show _ ∧ _); refine And.intro (by first | omega | assumption | (simp only [go_sem]; omega) | (simp; omega) | (simp; done)) ?_)
    | (refine hK _ ?_; clear hK K)
    | (clear hK K; refine hK _ ?_; clear hK K)
    | (clear hK K; clear hK K; refine hK _ ?_; clear hK K)
    | (clear hK K; clear hK K; clear hK K; refine hK _ ?_; clear hK K)
    | fail)
  refine AX.gcall [0] rfl rfl (c1) (by simp only [go_sem, reduceCtorEq]) (by simp only [go_sem, reduceCtorEq]) rfl rfl (by simp only [go_sem, Obj.owns]) rfl (by simp only [go_sem, Obj.owns]) rfl rfl ?_
  simp only [go_sem, reduceCtorEq]
  repeat' (first
    | ((show W _ _ _ _); first | (refine W.seq fun K hK => ?_) | refine W.block ?_ | (refine W.reg rfl ?_; simp only [go_sem, reduceCtorEq]) | (refine W.regD Try_mo rfl rfl ?_; simp only [go_sem, reduceCtorEq]) | (refine W.skip ?_; simp only [go_sem]) | (refine W.exit ?_; simp only [go_sem]) | (refine W.ret (Post.ret ?_); simp only [go_sem, reduceCtorEq]) | refine W.condT rfl ?_ | refine W.condF rfl ?_ | refine W.cond rfl (fun h => ?_) (fun h => ?_))
    | ((show AX _ _ _ _ _); first | (refine AX.pcall rfl rfl (by simp only [go_sem, unim_im]; rfl) (by solve_by_elim) rfl rfl ?_; simp only [go_sem, reduceCtorEq]) | (refine AX.pcallF rfl rfl (by simp only [go_sem, unim_im]; rfl) (by simp only [go_sem, unim_im]; rfl) (by solve_by_elim) rfl rfl ?_; simp only [go_sem, reduceCtorEq]))
    | ((show indepK _ _ _ _ = true ∧ _); refine And.intro (by kernel_rfl) ?_)
    | ((show _ ∧ _); refine And.intro (by first | omega | assumption | (simp only [go_sem]; omega) | (simp; omega) | (simp; done)) ?_)
    | (refine hK _ ?_; clear hK K)
    | (clear hK K; refine hK _ ?_; clear hK K)
    | (clear hK K; clear hK K; refine hK _ ?_; clear hK K)
    | (clear hK K; clear hK K; clear hK K; refine hK _ ?_; clear hK K)
    | fail)
  refine AX.gcall [0] rfl rfl (c2) (by simp only [go_sem, reduceCtorEq]) (by simp only [go_sem, reduceCtorEq]) rfl rfl (by simp only [go_sem, Obj.owns]) rfl (by simp only [go_sem, Obj.owns]) rfl rfl ?_
  simp only [go_sem, reduceCtorEq]
  repeat' (first
    | ((show W _ _ _ _); first | (refine W.seq fun K hK => ?_) | refine W.block ?_ | (refine W.reg rfl ?_; simp only [go_sem, reduceCtorEq]) | (refine W.regD Try_mo rfl rfl ?_; simp only [go_sem, reduceCtorEq]) | (refine W.skip ?_; simp only [go_sem]) | (refine W.exit ?_; simp only [go_sem]) | (refine W.ret (Post.ret ?_); simp only [go_sem, reduceCtorEq]) | refine W.condT rfl ?_ | refine W.condF rfl ?_ | refine W.cond rfl (fun h => ?_) (fun h => ?_))
    | ((show AX _ _ _ _ _); first | (refine AX.pcall rfl rfl (by simp only [go_sem, unim_im]; rfl) (by solve_by_elim) rfl rfl ?_; simp only [go_sem, reduceCtorEq]) | (refine AX.pcallF rfl rfl (by simp only [go_sem, unim_im]; rfl) (by simp only [go_sem, unim_im]; rfl) (by solve_by_elim) rfl rfl ?_; simp only [go_sem, reduceCtorEq]))
    | ((show indepK _ _ _ _ = true ∧ _); refine And.intro (by kernel_rfl) ?_)
    | ((show _ ∧ _); refine And.intro (by first | omega | assumption | (simp only [go_sem]; omega) | (simp; omega) | (simp; done)) ?_)
    | (refine hK _ ?_; clear hK K)
    | (clear hK K; refine hK _ ?_; clear hK K)
    | (clear hK K; clear hK K; refine hK _ ?_; clear hK K)
    | (clear hK K; clear hK K; clear hK K; refine hK _ ?_; clear hK K)
    | fail)
  refine AX.gcall [0] rfl rfl (c3) (by simp only [go_sem, reduceCtorEq]) (by simp only [go_sem, reduceCtorEq]) rfl rfl (by simp only [go_sem, Obj.owns]) rfl (by simp only [go_sem, Obj.owns]) rfl rfl ?_
  simp only [go_sem, reduceCtorEq]
  repeat' (first
    | ((show W _ _ _ _); first | (refine W.seq fun K hK => ?_) | refine W.block ?_ | (refine W.reg rfl ?_; simp only [go_sem, reduceCtorEq, hw]) | (refine W.regD Try_mo rfl rfl ?_; simp only [go_sem, reduceCtorEq, hw]) | (refine W.skip ?_; simp only [go_sem]) | (refine W.exit ?_; simp only [go_sem]) | (refine W.ret (Post.ret ?_); simp only [go_sem, reduceCtorEq, hw]) | refine W.condT rfl ?_ | refine W.condF rfl ?_ | refine W.cond rfl (fun h => ?_) (fun h => ?_))
    | ((show AX _ _ _ _ _); first | (refine AX.pcall rfl rfl (by simp only [go_sem, unim_im]; rfl) (by solve_by_elim) rfl rfl ?_; simp only [go_sem, reduceCtorEq, hw]) | (refine AX.pcallF rfl rfl (by simp only [go_sem, unim_im]; rfl) (by simp only [go_sem, unim_im]; rfl) (by solve_by_elim) rfl rfl ?_; simp only [go_sem, reduceCtorEq, hw]))
    | ((show indepK _ _ _ _ = true ∧ _); refine And.intro (by kernel_rfl) ?_)
    | ((show _ ∧ _); refine And.intro (by first | omega | assumption | (simp only [go_sem]; omega) | (simp; omega) | (simp; done)) ?_)
    | (refine hK _ ?_; clear hK K)
    | (clear hK K; refine hK _ ?_; clear hK K)
    | (clear hK K; clear hK K; refine hK _ ?_; clear hK K)
    | (clear hK K; clear hK K; clear hK K; refine hK _ ?_; clear hK K)
    | fail)
  refine AX.gcall [0] rfl rfl (c4) (by simp only [go_sem, reduceCtorEq]) (by simp only [go_sem, reduceCtorEq]) rfl rfl (by simp only [go_sem, Obj.owns]) rfl (by simp only [go_sem, Obj.owns]) rfl rfl ?_
  simp only [go_sem, reduceCtorEq]
  repeat' (first
    | ((show W _ _ _ _); first | (refine W.seq fun K hK => ?_) | refine W.block ?_ | (refine W.reg rfl ?_; simp only [go_sem, reduceCtorEq, e2]) | (refine W.regD Try_mo rfl rfl ?_; simp only [go_sem, reduceCtorEq, e2]) | (refine W.skip ?_; simp only [go_sem]) | (refine W.exit ?_; simp only [go_sem]) | (refine W.ret (Post.ret ?_); simp only [go_sem, reduceCtorEq, e2]) | refine W.condT rfl ?_ | refine W.condF rfl ?_ | refine W.cond rfl (fun h => ?_) (fun h => ?_))
    | ((show AX _ _ _ _ _); first | (refine AX.pcall rfl rfl (by simp only [go_sem, unim_im]; rfl) (by solve_by_elim) rfl rfl ?_; simp only [go_sem, reduceCtorEq, e2]) | (refine AX.pcallF rfl rfl (by simp only [go_sem, unim_im]; rfl) (by simp only [go_sem, unim_im]; rfl) (by solve_by_elim) rfl rfl ?_; simp only [go_sem, reduceCtorEq, e2]))
    | ((show indepK _ _ _ _ = true ∧ _); refine And.intro (by kernel_rfl) ?_)
    | ((show _ ∧ _); refine And.intro (by first | omega | assumption | (simp only [go_sem]; omega) | (simp; omega) | (simp; done)) ?_)
    | (refine hK _ ?_; clear hK K)
    | (clear hK K; refine hK _ ?_; clear hK K)
    | (clear hK K; clear hK K; refine hK _ ?_; clear hK K)
    | (clear hK K; clear hK K; clear hK K; refine hK _ ?_; clear hK K)
    | fail)
  refine W.loopF (T := fun x : Nat × Nat × Nat × Int × List Shp => { t := [(0, .c (.ptr 0 0)), (1, ft (.int .i64 (4096 - x.2.1 : Nat))), (4, .c (.ptr 1 0)), (7, .c (.ptr 2 0)), (8, ft (.int .i64 (N : Nat))), (10, ft (.int .i64 (x.1 : Nat)))], h := [(0, .box 80 [fl (.string s), fl (.int .i64 (x.2.2.1 : Nat)), fl (.int .i64 x.2.2.2.1)]), (1, .box 27 [fl (.string .empty), fl (.string .empty), fl (.slice none 0 0)]), (2, .box 27 [fl (.string (txV s a e)), fl (.string O), .ref 3]), (3, .row 27 (imR (x.2.2.2.2.map Shp.av)))], nx := 4, ex := [], nt := 57 })
    (Inv := fun x => x.1 ≤ N ∧ x.2.1 ≤ 4096 ∧ x.2.2.1 ≤ s.size ∧ k + 1 ≤ x.2.1 ∧ kidF s f (N - x.1) x.2.1 x.2.2.1 x.2.2.2.1 x.2.2.2.2 = r ∧ x.2.2.2.2.length ≤ x.1) (μ := fun x => N - x.1) (x0 := (0, k + 1, A, 0, [])) ?_ ⟨Nat.zero_le _, by simp only; omega, hA, Nat.le_refl _, hr, Nat.zero_le _⟩ ?_
  · refine Fits.adoptB 11 27 _ 2 99 27 rfl rfl rfl rfl tE27 rfl ?_
    refine Fits.fit [(0, 0), (1, 1), (11, 2), (99, 3)] [0, 1, 4, 7, 8, 10] 4 rfl rfl ?_
    simp only [go_sem, List.map_nil, imR_nil]
    exact Fits.rfl
  rintro ⟨i, k1, a1, e1', acc⟩ ⟨hi, hk1, ha1, hk2, hinv, hlen⟩ KL hKL
  simp only at hi hk1 ha1 hk2 hinv hlen ⊢
  by_cases hlt : i < N
  rotate_left
  · have g0 : decide ((i : Int) < (N : Int)) = false := by simp; omega
    obtain rfl : i = N := by omega
    rw [Nat.sub_self, kidF] at hinv
    subst hinv
    clear hKL
    repeat' (first
      | ((show W _ _ _ _); first | (refine W.seq fun K hK => ?_) | refine W.block ?_ | (refine W.reg rfl ?_; simp only [go_sem, reduceCtorEq, g0]) | (refine W.regD Try_mo rfl rfl ?_; simp only [go_sem, reduceCtorEq, g0]) | (refine W.skip ?_; simp only [go_sem]) | (refine W.exit ?_; simp only [go_sem]) | (refine W.ret (Post.ret ?_); simp only [go_sem, reduceCtorEq, g0]) | refine W.condT rfl ?_ | refine W.condF rfl ?_ | refine W.cond rfl (fun h => ?_) (fun h => ?_))
      | ((show AX _ _ _ _ _); first | (refine AX.pcall rfl rfl (by simp only [go_sem, unim_im]; rfl) (by solve_by_elim) rfl rfl ?_; simp only [go_sem, reduceCtorEq, g0]) | (refine AX.pcallF rfl rfl (by simp only [go_sem, unim_im]; rfl) (by simp only [go_sem, unim_im]; rfl) (by solve_by_elim) rfl rfl ?_; simp only [go_sem, reduceCtorEq, g0]))
      | ((show indepK _ _ _ _ = true ∧ _); refine And.intro (by kernel_rfl) ?_)
      | ((show _ ∧ _); refine And.intro (by first | omega | assumption | (simp only [go_sem]; omega) | (simp; omega) | (simp; done)) ?_)
      | (refine hK _ ?_; clear hK K)
      | (clear hK K; refine hK _ ?_; clear hK K)
      | (clear hK K; clear hK K; refine hK _ ?_; clear hK K)
      | (clear hK K; clear hK K; clear hK K; refine hK _ ?_; clear hK K)
      | fail)
    refine W.ret (PostG.ret (Fits.freeze 3 rfl (unim_im _) (Fits.seeO 1 3 rfl rfl (Fits.fit [(0, 0), (1, 1)] [4, 5, 6] 2 rfl rfl Fits.rfl))) rfl rfl ?_)
    simp only [St.r, go_sem, avs_map, Shp.av, List.map, ne_eq, not_true_eq_false, if_false, if_true]
    rfl
  have g0 : decide ((i : Int) < (N : Int)) = true := by simp; omega
  have hw2 := w64s i (by omega)
  have hc := ih k1 a1 e1' ha1 hk1 (by omega)
  obtain ⟨m, hm⟩ : ∃ m, N - i = m + 1 := ⟨N - i - 1, by omega⟩
  have hok := decF_ok s f k1 a1 e1' ha1 hk1
  rw [hm, kidF] at hinv
  generalize decF s f k1 a1 e1' = c at *
  obtain ⟨⟨s', o', ks'⟩, k3, a3, e3, err⟩ := c
  simp only [dmT, Shp.av, List.map, rdB] at hc hinv hok
  by_cases herr : err = 0
  rotate_left
  · have g1 : (err != 0) = true := by simp [herr]
    rw [if_pos herr] at hinv
    rw [if_neg herr] at hc
    subst hinv
    clear hKL
    repeat' (first
      | ((show W _ _ _ _); first | (refine W.seq fun K hK => ?_) | refine W.block ?_ | (refine W.reg rfl ?_; simp only [go_sem, reduceCtorEq, g0]) | (refine W.regD Try_mo rfl rfl ?_; simp only [go_sem, reduceCtorEq, g0]) | (refine W.skip ?_; simp only [go_sem]) | (refine W.exit ?_; simp only [go_sem]) | (refine W.ret (Post.ret ?_); simp only [go_sem, reduceCtorEq, g0]) | refine W.condT rfl ?_ | refine W.condF rfl ?_ | refine W.cond rfl (fun h => ?_) (fun h => ?_))
      | ((show AX _ _ _ _ _); first | (refine AX.pcall rfl rfl (by simp only [go_sem, unim_im]; rfl) (by solve_by_elim) rfl rfl ?_; simp only [go_sem, reduceCtorEq, g0]) | (refine AX.pcallF rfl rfl (by simp only [go_sem, unim_im]; rfl) (by simp only [go_sem, unim_im]; rfl) (by solve_by_elim) rfl rfl ?_; simp only [go_sem, reduceCtorEq, g0]))
      | ((show indepK _ _ _ _ = true ∧ _); refine And.intro (by kernel_rfl) ?_)
      | ((show _ ∧ _); refine And.intro (by first | omega | assumption | (simp only [go_sem]; omega) | (simp; omega) | (simp; done)) ?_)
      | (refine hK _ ?_; clear hK K)
      | (clear hK K; refine hK _ ?_; clear hK K)
      | (clear hK K; clear hK K; refine hK _ ?_; clear hK K)
      | (clear hK K; clear hK K; clear hK K; refine hK _ ?_; clear hK K)
      | fail)
    refine AX.gcall [0] rfl rfl (hc) (by simp only [go_sem, reduceCtorEq]) (by simp only [go_sem, reduceCtorEq]) rfl rfl (by simp only [go_sem, Obj.owns]) rfl (by simp only [go_sem, Obj.owns]) rfl rfl ?_
    simp only [go_sem, reduceCtorEq]
    repeat' (first
      | ((show W _ _ _ _); first | (refine W.seq fun K hK => ?_) | refine W.block ?_ | (refine W.reg rfl ?_; simp only [go_sem, reduceCtorEq, g1]) | (refine W.regD Try_mo rfl rfl ?_; simp only [go_sem, reduceCtorEq, g1]) | (refine W.skip ?_; simp only [go_sem]) | (refine W.exit ?_; simp only [go_sem]) | (refine W.ret (Post.ret ?_); simp only [go_sem, reduceCtorEq, g1]) | refine W.condT rfl ?_ | refine W.condF rfl ?_ | refine W.cond rfl (fun h => ?_) (fun h => ?_))
      | ((show AX _ _ _ _ _); first | (refine AX.pcall rfl rfl (by simp only [go_sem, unim_im]; rfl) (by solve_by_elim) rfl rfl ?_; simp only [go_sem, reduceCtorEq, g1]) | (refine AX.pcallF rfl rfl (by simp only [go_sem, unim_im]; rfl) (by simp only [go_sem, unim_im]; rfl) (by solve_by_elim) rfl rfl ?_; simp only [go_sem, reduceCtorEq, g1]))
      | ((show indepK _ _ _ _ = true ∧ _); refine And.intro (by kernel_rfl) ?_)
      | ((show _ ∧ _); refine And.intro (by first | omega | assumption | (simp only [go_sem]; omega) | (simp; omega) | (simp; done)) ?_)
      | (refine hK _ ?_; clear hK K)
      | (clear hK K; refine hK _ ?_; clear hK K)
      | (clear hK K; clear hK K; refine hK _ ?_; clear hK K)
      | (clear hK K; clear hK K; clear hK K; refine hK _ ?_; clear hK K)
      | fail)
    refine W.ret (PostG.ret (Fits.boxLe 1 _ rfl (CLe.nil3 (e := 27)) (Fits.fit [(0, 0), (1, 1)] [4, 5, 6] 2 rfl rfl Fits.rfl)) rfl rfl ?_)
    simp only [St.r, go_sem, shp0, avs, Shp.av, List.map, ne_eq, herr, not_false_eq_true, if_true, if_false]
    rfl
  have g1 : (err != 0) = false := by simp [herr]
  rw [if_neg (by simpa using herr)] at hinv
  rw [if_pos herr] at hc
  clear hK
  repeat' (first
    | ((show W _ _ _ _); first | (refine W.seq fun K hK => ?_) | refine W.block ?_ | (refine W.reg rfl ?_; simp only [go_sem, reduceCtorEq, g0]) | (refine W.regD Try_mo rfl rfl ?_; simp only [go_sem, reduceCtorEq, g0]) | (refine W.skip ?_; simp only [go_sem]) | (refine W.exit ?_; simp only [go_sem]) | (refine W.ret (Post.ret ?_); simp only [go_sem, reduceCtorEq, g0]) | refine W.condT rfl ?_ | refine W.condF rfl ?_ | refine W.cond rfl (fun h => ?_) (fun h => ?_))
    | ((show AX _ _ _ _ _); first | (refine AX.pcall rfl rfl (by simp only [go_sem, unim_im]; rfl) (by solve_by_elim) rfl rfl ?_; simp only [go_sem, reduceCtorEq, g0]) | (refine AX.pcallF rfl rfl (by simp only [go_sem, unim_im]; rfl) (by simp only [go_sem, unim_im]; rfl) (by solve_by_elim) rfl rfl ?_; simp only [go_sem, reduceCtorEq, g0]))
    | ((show indepK _ _ _ _ = true ∧ _); refine And.intro (by kernel_rfl) ?_)
    | ((show _ ∧ _); refine And.intro (by first | omega | assumption | (simp only [go_sem]; omega) | (simp; omega) | (simp; done)) ?_)
    | (refine hK _ ?_; clear hK K)
    | (clear hK K; refine hK _ ?_; clear hK K)
    | (clear hK K; clear hK K; refine hK _ ?_; clear hK K)
    | (clear hK K; clear hK K; clear hK K; refine hK _ ?_; clear hK K)
    | fail)
  refine AX.gcall [0] rfl rfl (hc) (by simp only [go_sem, reduceCtorEq]) (by simp only [go_sem, reduceCtorEq]) rfl rfl (by simp only [go_sem, Obj.owns]) rfl (by simp only [go_sem, Obj.owns]) rfl rfl ?_
  simp only [go_sem, reduceCtorEq]
  repeat' (first
    | ((show W _ _ _ _); first | (refine W.seq fun K hK => ?_) | refine W.block ?_ | (refine W.reg rfl ?_; simp only [go_sem, reduceCtorEq, g1, hw2]) | (refine W.regD Try_mo rfl rfl ?_; simp only [go_sem, reduceCtorEq, g1, hw2]) | (refine W.skip ?_; simp only [go_sem]) | (refine W.exit ?_; simp only [go_sem]) | (refine W.ret (Post.ret ?_); simp only [go_sem, reduceCtorEq, g1, hw2]) | refine W.condT rfl ?_ | refine W.condF rfl ?_ | refine W.cond rfl (fun h => ?_) (fun h => ?_))
    | ((show AX _ _ _ _ _); first | (refine AX.pcall rfl rfl (by simp only [go_sem, unim_im]; rfl) (by solve_by_elim) rfl rfl ?_; simp only [go_sem, reduceCtorEq, g1, hw2]) | (refine AX.pcallF rfl rfl (by simp only [go_sem, unim_im]; rfl) (by simp only [go_sem, unim_im]; rfl) (by solve_by_elim) rfl rfl ?_; simp only [go_sem, reduceCtorEq, g1, hw2]))
    | ((show indepK _ _ _ _ = true ∧ _); refine And.intro (by kernel_rfl) ?_)
    | ((show _ ∧ _); refine And.intro (by first | omega | assumption | (simp only [go_sem]; omega) | (simp; omega) | (simp; done)) ?_)
    | (refine hK _ ?_; clear hK K)
    | (clear hK K; refine hK _ ?_; clear hK K)
    | (clear hK K; clear hK K; refine hK _ ?_; clear hK K)
    | (clear hK K; clear hK K; clear hK K; refine hK _ ?_; clear hK K)
    | fail)
  refine hKL.to (i + 1, k3, a3, e3, acc ++ [.mk s' o' ks']) ⟨by simp only; omega, hok.2.2 herr, hok.1, by simp only; omega, ?_, by simp only [List.length_append, List.length_cons, List.length_nil]; omega⟩ (by simp only; omega) (Fits.fit [(0, 0), (1, 1), (2, 2), (24, 3)] [0, 1, 4, 7, 8, 10] 4 rfl rfl ?_)
  · rw [show N - (i + 1) = m by omega]; exact hinv
  · simp only [go_sem, List.map_append, List.map_cons, List.map_nil, imR_app, imR_one, imL, Shp.av]
    exact Fits.rfl
theorem decode_all (s : ByteArray) (hs : s.size ≤ 140737488355328) : ∀ f, DecM s f
  | 0 => fun k a e ha hk hf => by
    have hd : decF s 0 k a e = ⟨shp0, k + 1, a, e, 6⟩ := by simp only [decF]
    rw [hd]
    exact (decode_lim s k a e hk (by omega)).drop
  | f + 1 => fun k a e ha hk hf => (decode_m s hs f (decode_all s hs f) k a e ha hk hf).drop
end Go.Proofs.Ytegcmciglakicaa
namespace Go.Proofs.Ytegcmciglakicaa
open Go.RowKit Go.Exe
set_option linter.unusedVariables false
set_option linter.unusedSimpArgs false
set_option maxHeartbeats 1000000
set_option maxRecDepth 100000
attribute [local irreducible] W AX Run RunD AStep AOp AOpX AStB AStH AStG Fits PCall GCall PostG Post Stop

/-! ### how large a read shape is -/
theorem txV_size (s : ByteArray) (a : Nat) (e : Int) : (txV s a e).size ≤ 4096 := by
  unfold txV
  split
  · decide
  · split
    · rename_i h2
      have := rdErr_0 (by decide) h2
      rw [ByteArray.size_extract]
      omega
    · decide
mutual
theorem decF_kw (s : ByteArray) : ∀ (f k a : Nat) (e : Int), a ≤ s.size → k ≤ 4096 → (decF s f k a e).err = 0 → (decF s f k a e).x.keyW + 8219 * k ≤ 8219 * (decF s f k a e).k
  | 0, k, a, e, h, hk => by simp [decF]
  | f + 1, k, a, e, h, hk => by
    have h1 := hdA_le (e := e) h
    simp only [decF]
    split
    · intro h; simp at h
    · split
      · rename_i h2; intro h; exact absurd h h2
      · have h2 := kidF_kw s f (hdN s a e) (k + 1) (hdA s a e) (hdE s a e) [] h1 (by omega)
        split
        · rename_i h3; intro h; exact absurd h h3
        · rename_i h3
          intro _
          have h4 := h2 (by simpa using h3)
          have h5 := txV_size s a e
          have h6 := txV_size s (txA s a e) (txE s a e)
          have h7 : (hdO s a e).size ≤ 4096 := h6
          simp only [keysW] at h4
          simp only [Shp.keyW]
          omega
termination_by f _ _ _ _ _ => (f, 0)
theorem kidF_kw (s : ByteArray) : ∀ (f n k a : Nat) (e : Int) (acc : List Shp), a ≤ s.size → k ≤ 4096 → (kidF s f n k a e acc).err = 0 → keysW (kidF s f n k a e acc).ks + 8219 * k ≤ 8219 * (kidF s f n k a e acc).k + keysW acc
  | f, 0, k, a, e, acc, h, hk => by simp only [kidF]; intro _; omega
  | f, n + 1, k, a, e, acc, h, hk => by
    have h1 := decF_ok s f k a e h hk
    have h4 := decF_kw s f k a e h hk
    simp only [kidF]
    split
    · rename_i h2; intro h; exact absurd h h2
    · rename_i h2
      have h2 : (decF s f k a e).err = 0 := by simpa using h2
      have h3 := kidF_kw s f n (decF s f k a e).k (decF s f k a e).a (decF s f k a e).e (acc ++ [(decF s f k a e).x]) h1.1 (h1.2.2 h2)
      intro h5
      have h6 := h3 h5
      have h7 := h4 h2
      rw [keysW_app] at h6
      simp only [keysW] at h6
      omega
termination_by f n _ _ _ _ _ _ => (f, n + 1)
end
/-! ### Decode -/
def dT (x : Shp) (err : Int) : TV := .t [(true, x.av.map .im), (false, [fl (.int .i64 err)])]
def decR (s : ByteArray) : Shp × Int :=
  if (decF s 4096 0 0 0).err ≠ 0 then (shp0, (decF s 4096 0 0 0).err)
  else if (decF s 4096 0 0 0).a < s.size then (shp0, 3)
  else if (decF s 4096 0 0 0).x.canon.keyB = s.toList then ((decF s 4096 0 0 0).x, 0) else (shp0, 3)
theorem toList_arr (l : List UInt8) : (⟨l.toArray⟩ : ByteArray).toList = l := by rw [ByteArray.toList_eq]
theorem dT_zero {f : Nat} {args : List TV} {err : Int} (h : PCall Try.prog f args (.t [(true, [fl (.string .empty), fl (.string .empty), fl (.slice none 0 0)]), (false, [fl (.int .i64 err)])])) : PCall Try.prog f args (dT shp0 err) := by
  simp only [dT, shp0, Shp.av, List.map, avs]
  exact PCall.conv h (Al.refl (fun _ => TLe.rfl) _) (TLe.t (Al.cons ⟨rfl, CLe.nil3⟩ (Al.cons ⟨rfl, Al.cons CLe.rfl Al.nil⟩ Al.nil)))
theorem Decode_c (s : ByteArray) (hs : s.size ≤ 140737488355328) (c12 : ∀ x : Shp, PCall Try.prog 12 [shT x] (shT x.canon)) : PCall Try.prog 27 [ft (.string s)] (dT (decR s).1 (decR s).2) := by
  have hc := shape_all s hs 4096 0 0 0 (Nat.zero_le _) (Nat.zero_le _) (Nat.le_refl _)
  have hok := decF_ok s 4096 0 0 0 (Nat.zero_le _) (Nat.zero_le _)
  have hkw := decF_kw s 4096 0 0 0 (Nat.zero_le _) (Nat.zero_le _)
  have hn := newReader_r s
  unfold decR
  generalize decF s 4096 0 0 0 = r at *
  obtain ⟨x, k, a, e, err⟩ := r
  simp only at hok hkw ⊢
  have hl := left_r s a e hs (by omega)
  simp only [xB, rdB, drT, show ((0 : Nat) : Int) = 0 from rfl] at *
  by_cases h1 : err = 0
  rotate_left
  · have e1 : (err != 0) = true := by simp [h1]
    rw [if_pos h1]
    refine dT_zero ?_
    obtain ⟨s', o', ks'⟩ := x
    simp only [Shp.av, List.map] at hc
    refine PCall.intro (nt := 32) (rs := [.cell 2 27, .tmp 3]) Try.func27 rfl ⟨by kernel_rfl, by kernel_rfl, by kernel_rfl⟩ (by simp) ?_
    rintro ⟨P, w0, ok0, may, np, pblk⟩ rfl rfl
    repeat' (first
      | ((show W _ _ _ _); first | (refine W.seq fun K hK => ?_) | refine W.block ?_ | (refine W.reg rfl ?_; simp only [go_sem, reduceCtorEq]) | (refine W.regD Try_mo rfl rfl ?_; simp only [go_sem, reduceCtorEq]) | (refine W.skip ?_; simp only [go_sem]) | (refine W.exit ?_; simp only [go_sem]) | (refine W.ret (Post.ret ?_); simp only [go_sem, reduceCtorEq]) | refine W.condT rfl ?_ | refine W.condF rfl ?_ | refine W.cond rfl (fun h => ?_) (fun h => ?_))
      | ((show AX _ _ _ _ _); first | (refine AX.pcall rfl rfl (by simp only [go_sem, unim_im]; rfl) (by solve_by_elim) rfl rfl ?_; simp only [go_sem, reduceCtorEq]) | (refine AX.pcallF rfl rfl (by simp only [go_sem, unim_im]; rfl) (by simp only [go_sem, unim_im]; rfl) (by solve_by_elim) rfl rfl ?_; simp only [go_sem, reduceCtorEq]))
      | ((show indepK _ _ _ _ = true ∧ _); refine And.intro (by kernel_rfl) ?_)
      | ((show _ ∧ _); refine And.intro (by first | omega | assumption | (simp only [go_sem]; omega) | (simp; omega) | (simp; done)) ?_)
      | (refine hK _ ?_; clear hK K)
      | (clear hK K; refine hK _ ?_; clear hK K)
      | (clear hK K; clear hK K; refine hK _ ?_; clear hK K)
      | (clear hK K; clear hK K; clear hK K; refine hK _ ?_; clear hK K)
      | fail)
    refine AX.gcall [] rfl rfl (hn) (by simp only [go_sem, reduceCtorEq]) (by simp only [go_sem, reduceCtorEq]) rfl rfl (by simp only [go_sem, Obj.owns]) rfl (by simp only [go_sem, Obj.owns]) rfl rfl ?_
    simp only [go_sem, reduceCtorEq]
    repeat' (first
      | ((show W _ _ _ _); first | (refine W.seq fun K hK => ?_) | refine W.block ?_ | (refine W.reg rfl ?_; simp only [go_sem, reduceCtorEq]) | (refine W.regD Try_mo rfl rfl ?_; simp only [go_sem, reduceCtorEq]) | (refine W.skip ?_; simp only [go_sem]) | (refine W.exit ?_; simp only [go_sem]) | (refine W.ret (Post.ret ?_); simp only [go_sem, reduceCtorEq]) | refine W.condT rfl ?_ | refine W.condF rfl ?_ | refine W.cond rfl (fun h => ?_) (fun h => ?_))
      | ((show AX _ _ _ _ _); first | (refine AX.pcall rfl rfl (by simp only [go_sem, unim_im]; rfl) (by solve_by_elim) rfl rfl ?_; simp only [go_sem, reduceCtorEq]) | (refine AX.pcallF rfl rfl (by simp only [go_sem, unim_im]; rfl) (by simp only [go_sem, unim_im]; rfl) (by solve_by_elim) rfl rfl ?_; simp only [go_sem, reduceCtorEq]))
      | ((show indepK _ _ _ _ = true ∧ _); refine And.intro (by kernel_rfl) ?_)
      | ((show _ ∧ _); refine And.intro (by first | omega | assumption | (simp only [go_sem]; omega) | (simp; omega) | (simp; done)) ?_)
      | (refine hK _ ?_; clear hK K)
      | (clear hK K; refine hK _ ?_; clear hK K)
      | (clear hK K; clear hK K; refine hK _ ?_; clear hK K)
      | (clear hK K; clear hK K; clear hK K; refine hK _ ?_; clear hK K)
      | fail)
    refine AX.gcall [5, 3] rfl rfl (hc) (by simp only [go_sem, reduceCtorEq]) (by simp only [go_sem, reduceCtorEq]) rfl rfl (by simp only [go_sem, Obj.owns]) rfl (by simp only [go_sem, Obj.owns]) rfl rfl ?_
    simp only [go_sem, reduceCtorEq]
    repeat' (first
      | ((show W _ _ _ _); first | (refine W.seq fun K hK => ?_) | refine W.block ?_ | (refine W.reg rfl ?_; simp only [go_sem, reduceCtorEq, e1]) | (refine W.regD Try_mo rfl rfl ?_; simp only [go_sem, reduceCtorEq, e1]) | (refine W.skip ?_; simp only [go_sem]) | (refine W.exit ?_; simp only [go_sem]) | (refine W.ret (Post.ret ?_); simp only [go_sem, reduceCtorEq, e1]) | refine W.condT rfl ?_ | refine W.condF rfl ?_ | refine W.cond rfl (fun h => ?_) (fun h => ?_))
      | ((show AX _ _ _ _ _); first | (refine AX.pcall rfl rfl (by simp only [go_sem, unim_im]; rfl) (by solve_by_elim) rfl rfl ?_; simp only [go_sem, reduceCtorEq, e1]) | (refine AX.pcallF rfl rfl (by simp only [go_sem, unim_im]; rfl) (by simp only [go_sem, unim_im]; rfl) (by solve_by_elim) rfl rfl ?_; simp only [go_sem, reduceCtorEq, e1]))
      | ((show indepK _ _ _ _ = true ∧ _); refine And.intro (by kernel_rfl) ?_)
      | ((show _ ∧ _); refine And.intro (by first | omega | assumption | (simp only [go_sem]; omega) | (simp; omega) | (simp; done)) ?_)
      | (refine hK _ ?_; clear hK K)
      | (clear hK K; refine hK _ ?_; clear hK K)
      | (clear hK K; clear hK K; refine hK _ ?_; clear hK K)
      | (clear hK K; clear hK K; clear hK K; refine hK _ ?_; clear hK K)
      | fail)
  have e1 : (err != 0) = false := by simp [h1]
  rw [if_neg (by simpa using h1)]
  have c26 := key_c x (c12 x) (by rw [canon_keyW]; have := hkw h1; have := hok.2.2 h1; omega)
  by_cases h2 : a < s.size
  · have e2 : decide ((s.size : Int) - a > 0) = true := by simp; omega
    rw [if_pos h2]
    refine dT_zero ?_
    obtain ⟨s', o', ks'⟩ := x
    simp only [Shp.av, List.map] at hc
    clear c26 c12
    refine PCall.intro (nt := 32) (rs := [.cell 2 27, .tmp 3]) Try.func27 rfl ⟨by kernel_rfl, by kernel_rfl, by kernel_rfl⟩ (by simp) ?_
    rintro ⟨P, w0, ok0, may, np, pblk⟩ rfl rfl
    repeat' (first
      | ((show W _ _ _ _); first | (refine W.seq fun K hK => ?_) | refine W.block ?_ | (refine W.reg rfl ?_; simp only [go_sem, reduceCtorEq]) | (refine W.regD Try_mo rfl rfl ?_; simp only [go_sem, reduceCtorEq]) | (refine W.skip ?_; simp only [go_sem]) | (refine W.exit ?_; simp only [go_sem]) | (refine W.ret (Post.ret ?_); simp only [go_sem, reduceCtorEq]) | refine W.condT rfl ?_ | refine W.condF rfl ?_ | refine W.cond rfl (fun h => ?_) (fun h => ?_))
      | ((show AX _ _ _ _ _); first | (refine AX.pcall rfl rfl (by simp only [go_sem, unim_im]; rfl) (by solve_by_elim) rfl rfl ?_; simp only [go_sem, reduceCtorEq]) | (refine AX.pcallF rfl rfl (by simp only [go_sem, unim_im]; rfl) (by simp only [go_sem, unim_im]; rfl) (by solve_by_elim) rfl rfl ?_; simp only [go_sem, reduceCtorEq]))
      | ((show indepK _ _ _ _ = true ∧ _); refine And.intro (by kernel_rfl) ?_)
      | ((show _ ∧ _); refine And.intro (by first | omega | assumption | (simp only [go_sem]; omega) | (simp; omega) | (simp; done)) ?_)
      | (refine hK _ ?_; clear hK K)
      | (clear hK K; refine hK _ ?_; clear hK K)
      | (clear hK K; clear hK K; refine hK _ ?_; clear hK K)
      | (clear hK K; clear hK K; clear hK K; refine hK _ ?_; clear hK K)
      | fail)
    refine AX.gcall [] rfl rfl (hn) (by simp only [go_sem, reduceCtorEq]) (by simp only [go_sem, reduceCtorEq]) rfl rfl (by simp only [go_sem, Obj.owns]) rfl (by simp only [go_sem, Obj.owns]) rfl rfl ?_
    simp only [go_sem, reduceCtorEq]
    repeat' (first
      | ((show W _ _ _ _); first | (refine W.seq fun K hK => ?_) | refine W.block ?_ | (refine W.reg rfl ?_; simp only [go_sem, reduceCtorEq]) | (refine W.regD Try_mo rfl rfl ?_; simp only [go_sem, reduceCtorEq]) | (refine W.skip ?_; simp only [go_sem]) | (refine W.exit ?_; simp only [go_sem]) | (refine W.ret (Post.ret ?_); simp only [go_sem, reduceCtorEq]) | refine W.condT rfl ?_ | refine W.condF rfl ?_ | refine W.cond rfl (fun h => ?_) (fun h => ?_))
      | ((show AX _ _ _ _ _); first | (refine AX.pcall rfl rfl (by simp only [go_sem, unim_im]; rfl) (by solve_by_elim) rfl rfl ?_; simp only [go_sem, reduceCtorEq]) | (refine AX.pcallF rfl rfl (by simp only [go_sem, unim_im]; rfl) (by simp only [go_sem, unim_im]; rfl) (by solve_by_elim) rfl rfl ?_; simp only [go_sem, reduceCtorEq]))
      | ((show indepK _ _ _ _ = true ∧ _); refine And.intro (by kernel_rfl) ?_)
      | ((show _ ∧ _); refine And.intro (by first | omega | assumption | (simp only [go_sem]; omega) | (simp; omega) | (simp; done)) ?_)
      | (refine hK _ ?_; clear hK K)
      | (clear hK K; refine hK _ ?_; clear hK K)
      | (clear hK K; clear hK K; refine hK _ ?_; clear hK K)
      | (clear hK K; clear hK K; clear hK K; refine hK _ ?_; clear hK K)
      | fail)
    refine AX.gcall [5, 3] rfl rfl (hc) (by simp only [go_sem, reduceCtorEq]) (by simp only [go_sem, reduceCtorEq]) rfl rfl (by simp only [go_sem, Obj.owns]) rfl (by simp only [go_sem, Obj.owns]) rfl rfl ?_
    simp only [go_sem, reduceCtorEq]
    repeat' (first
      | ((show W _ _ _ _); first | (refine W.seq fun K hK => ?_) | refine W.block ?_ | (refine W.reg rfl ?_; simp only [go_sem, reduceCtorEq, e1]) | (refine W.regD Try_mo rfl rfl ?_; simp only [go_sem, reduceCtorEq, e1]) | (refine W.skip ?_; simp only [go_sem]) | (refine W.exit ?_; simp only [go_sem]) | (refine W.ret (Post.ret ?_); simp only [go_sem, reduceCtorEq, e1]) | refine W.condT rfl ?_ | refine W.condF rfl ?_ | refine W.cond rfl (fun h => ?_) (fun h => ?_))
      | ((show AX _ _ _ _ _); first | (refine AX.pcall rfl rfl (by simp only [go_sem, unim_im]; rfl) (by solve_by_elim) rfl rfl ?_; simp only [go_sem, reduceCtorEq, e1]) | (refine AX.pcallF rfl rfl (by simp only [go_sem, unim_im]; rfl) (by simp only [go_sem, unim_im]; rfl) (by solve_by_elim) rfl rfl ?_; simp only [go_sem, reduceCtorEq, e1]))
      | ((show indepK _ _ _ _ = true ∧ _); refine And.intro (by kernel_rfl) ?_)
      | ((show _ ∧ _); refine And.intro (by first | omega | assumption | (simp only [go_sem]; omega) | (simp; omega) | (simp; done)) ?_)
      | (refine hK _ ?_; clear hK K)
      | (clear hK K; refine hK _ ?_; clear hK K)
      | (clear hK K; clear hK K; refine hK _ ?_; clear hK K)
      | (clear hK K; clear hK K; clear hK K; refine hK _ ?_; clear hK K)
      | fail)
    refine AX.gcall [3] rfl rfl (hl) (by simp only [go_sem, reduceCtorEq, e2]) (by simp only [go_sem, reduceCtorEq, e2]) rfl rfl (by simp only [go_sem, Obj.owns]) rfl (by simp only [go_sem, Obj.owns]) rfl rfl ?_
    simp only [go_sem, reduceCtorEq, e2]
    repeat' (first
      | ((show W _ _ _ _); first | (refine W.seq fun K hK => ?_) | refine W.block ?_ | (refine W.reg rfl ?_; simp only [go_sem, reduceCtorEq, e2]) | (refine W.regD Try_mo rfl rfl ?_; simp only [go_sem, reduceCtorEq, e2]) | (refine W.skip ?_; simp only [go_sem]) | (refine W.exit ?_; simp only [go_sem]) | (refine W.ret (Post.ret ?_); simp only [go_sem, reduceCtorEq, e2]) | refine W.condT rfl ?_ | refine W.condF rfl ?_ | refine W.cond rfl (fun h => ?_) (fun h => ?_))
      | ((show AX _ _ _ _ _); first | (refine AX.pcall rfl rfl (by simp only [go_sem, unim_im]; rfl) (by solve_by_elim) rfl rfl ?_; simp only [go_sem, reduceCtorEq, e2]) | (refine AX.pcallF rfl rfl (by simp only [go_sem, unim_im]; rfl) (by simp only [go_sem, unim_im]; rfl) (by solve_by_elim) rfl rfl ?_; simp only [go_sem, reduceCtorEq, e2]))
      | ((show indepK _ _ _ _ = true ∧ _); refine And.intro (by kernel_rfl) ?_)
      | ((show _ ∧ _); refine And.intro (by first | omega | assumption | (simp only [go_sem]; omega) | (simp; omega) | (simp; done)) ?_)
      | (refine hK _ ?_; clear hK K)
      | (clear hK K; refine hK _ ?_; clear hK K)
      | (clear hK K; clear hK K; refine hK _ ?_; clear hK K)
      | (clear hK K; clear hK K; clear hK K; refine hK _ ?_; clear hK K)
      | fail)
  have e2 : decide ((s.size : Int) - a > 0) = false := by simp; omega
  rw [if_neg h2]
  clear c12
  by_cases h3 : x.canon.keyB = s.toList
  · have e3 : (x.canon.keyB == s.toList) = true := by simp [h3]
    rw [if_pos h3]
    subst h1
    simp only [dT]
    generalize x.canon.keyB = kb at *
    obtain ⟨s', o', ks'⟩ := x
    simp only [Shp.av, List.map, shT_mk] at *
    refine PCall.intro (nt := 32) (rs := [.cell 2 27, .tmp 3]) Try.func27 rfl ⟨by kernel_rfl, by kernel_rfl, by kernel_rfl⟩ (by simp) ?_
    rintro ⟨P, w0, ok0, may, np, pblk⟩ rfl rfl
    repeat' (first
      | ((show W _ _ _ _); first | (refine W.seq fun K hK => ?_) | refine W.block ?_ | (refine W.reg rfl ?_; simp only [go_sem, reduceCtorEq]) | (refine W.regD Try_mo rfl rfl ?_; simp only [go_sem, reduceCtorEq]) | (refine W.skip ?_; simp only [go_sem]) | (refine W.exit ?_; simp only [go_sem]) | (refine W.ret (Post.ret ?_); simp only [go_sem, reduceCtorEq]) | refine W.condT rfl ?_ | refine W.condF rfl ?_ | refine W.cond rfl (fun h => ?_) (fun h => ?_))
      | ((show AX _ _ _ _ _); first | (refine AX.pcall rfl rfl (by simp only [go_sem, unim_im]; rfl) (by solve_by_elim) rfl rfl ?_; simp only [go_sem, reduceCtorEq]) | (refine AX.pcallF rfl rfl (by simp only [go_sem, unim_im]; rfl) (by simp only [go_sem, unim_im]; rfl) (by solve_by_elim) rfl rfl ?_; simp only [go_sem, reduceCtorEq]))
      | ((show indepK _ _ _ _ = true ∧ _); refine And.intro (by kernel_rfl) ?_)
      | ((show _ ∧ _); refine And.intro (by first | omega | assumption | (simp only [go_sem]; omega) | (simp; omega) | (simp; done)) ?_)
      | (refine hK _ ?_; clear hK K)
      | (clear hK K; refine hK _ ?_; clear hK K)
      | (clear hK K; clear hK K; refine hK _ ?_; clear hK K)
      | (clear hK K; clear hK K; clear hK K; refine hK _ ?_; clear hK K)
      | fail)
    refine AX.gcall [] rfl rfl (hn) (by simp only [go_sem, reduceCtorEq]) (by simp only [go_sem, reduceCtorEq]) rfl rfl (by simp only [go_sem, Obj.owns]) rfl (by simp only [go_sem, Obj.owns]) rfl rfl ?_
    simp only [go_sem, reduceCtorEq]
    repeat' (first
      | ((show W _ _ _ _); first | (refine W.seq fun K hK => ?_) | refine W.block ?_ | (refine W.reg rfl ?_; simp only [go_sem, reduceCtorEq]) | (refine W.regD Try_mo rfl rfl ?_; simp only [go_sem, reduceCtorEq]) | (refine W.skip ?_; simp only [go_sem]) | (refine W.exit ?_; simp only [go_sem]) | (refine W.ret (Post.ret ?_); simp only [go_sem, reduceCtorEq]) | refine W.condT rfl ?_ | refine W.condF rfl ?_ | refine W.cond rfl (fun h => ?_) (fun h => ?_))
      | ((show AX _ _ _ _ _); first | (refine AX.pcall rfl rfl (by simp only [go_sem, unim_im]; rfl) (by solve_by_elim) rfl rfl ?_; simp only [go_sem, reduceCtorEq]) | (refine AX.pcallF rfl rfl (by simp only [go_sem, unim_im]; rfl) (by simp only [go_sem, unim_im]; rfl) (by solve_by_elim) rfl rfl ?_; simp only [go_sem, reduceCtorEq]))
      | ((show indepK _ _ _ _ = true ∧ _); refine And.intro (by kernel_rfl) ?_)
      | ((show _ ∧ _); refine And.intro (by first | omega | assumption | (simp only [go_sem]; omega) | (simp; omega) | (simp; done)) ?_)
      | (refine hK _ ?_; clear hK K)
      | (clear hK K; refine hK _ ?_; clear hK K)
      | (clear hK K; clear hK K; refine hK _ ?_; clear hK K)
      | (clear hK K; clear hK K; clear hK K; refine hK _ ?_; clear hK K)
      | fail)
    refine AX.gcall [5, 3] rfl rfl (hc) (by simp only [go_sem, reduceCtorEq]) (by simp only [go_sem, reduceCtorEq]) rfl rfl (by simp only [go_sem, Obj.owns]) rfl (by simp only [go_sem, Obj.owns]) rfl rfl ?_
    simp only [go_sem, reduceCtorEq]
    repeat' (first
      | ((show W _ _ _ _); first | (refine W.seq fun K hK => ?_) | refine W.block ?_ | (refine W.reg rfl ?_; simp only [go_sem, reduceCtorEq, e1]) | (refine W.regD Try_mo rfl rfl ?_; simp only [go_sem, reduceCtorEq, e1]) | (refine W.skip ?_; simp only [go_sem]) | (refine W.exit ?_; simp only [go_sem]) | (refine W.ret (Post.ret ?_); simp only [go_sem, reduceCtorEq, e1]) | refine W.condT rfl ?_ | refine W.condF rfl ?_ | refine W.cond rfl (fun h => ?_) (fun h => ?_))
      | ((show AX _ _ _ _ _); first | (refine AX.pcall rfl rfl (by simp only [go_sem, unim_im]; rfl) (by solve_by_elim) rfl rfl ?_; simp only [go_sem, reduceCtorEq, e1]) | (refine AX.pcallF rfl rfl (by simp only [go_sem, unim_im]; rfl) (by simp only [go_sem, unim_im]; rfl) (by solve_by_elim) rfl rfl ?_; simp only [go_sem, reduceCtorEq, e1]))
      | ((show indepK _ _ _ _ = true ∧ _); refine And.intro (by kernel_rfl) ?_)
      | ((show _ ∧ _); refine And.intro (by first | omega | assumption | (simp only [go_sem]; omega) | (simp; omega) | (simp; done)) ?_)
      | (refine hK _ ?_; clear hK K)
      | (clear hK K; refine hK _ ?_; clear hK K)
      | (clear hK K; clear hK K; refine hK _ ?_; clear hK K)
      | (clear hK K; clear hK K; clear hK K; refine hK _ ?_; clear hK K)
      | fail)
    refine AX.gcall [3] rfl rfl (hl) (by simp only [go_sem, reduceCtorEq, e2]) (by simp only [go_sem, reduceCtorEq, e2]) rfl rfl (by simp only [go_sem, Obj.owns]) rfl (by simp only [go_sem, Obj.owns]) rfl rfl ?_
    simp only [go_sem, reduceCtorEq, e2]
    repeat' (first
      | ((show W _ _ _ _); first | (refine W.seq fun K hK => ?_) | refine W.block ?_ | (refine W.reg rfl ?_; simp only [go_sem, reduceCtorEq, e2, toList_arr, e3]) | (refine W.regD Try_mo rfl rfl ?_; simp only [go_sem, reduceCtorEq, e2, toList_arr, e3]) | (refine W.skip ?_; simp only [go_sem]) | (refine W.exit ?_; simp only [go_sem]) | (refine W.ret (Post.ret ?_); simp only [go_sem, reduceCtorEq, e2, toList_arr, e3]) | refine W.condT rfl ?_ | refine W.condF rfl ?_ | refine W.cond rfl (fun h => ?_) (fun h => ?_))
      | ((show AX _ _ _ _ _); first | (refine AX.pcall rfl rfl (by simp only [go_sem, unim_im]; rfl) (by solve_by_elim) rfl rfl ?_; simp only [go_sem, reduceCtorEq, e2, toList_arr, e3]) | (refine AX.pcallF rfl rfl (by simp only [go_sem, unim_im]; rfl) (by simp only [go_sem, unim_im]; rfl) (by solve_by_elim) rfl rfl ?_; simp only [go_sem, reduceCtorEq, e2, toList_arr, e3]))
      | ((show indepK _ _ _ _ = true ∧ _); refine And.intro (by kernel_rfl) ?_)
      | ((show _ ∧ _); refine And.intro (by first | omega | assumption | (simp only [go_sem]; omega) | (simp; omega) | (simp; done)) ?_)
      | (refine hK _ ?_; clear hK K)
      | (clear hK K; refine hK _ ?_; clear hK K)
      | (clear hK K; clear hK K; refine hK _ ?_; clear hK K)
      | (clear hK K; clear hK K; clear hK K; refine hK _ ?_; clear hK K)
      | fail)
  · have e3 : (x.canon.keyB == s.toList) = false := by simp [h3]
    rw [if_neg h3]
    refine dT_zero ?_
    generalize x.canon.keyB = kb at *
    obtain ⟨s', o', ks'⟩ := x
    simp only [Shp.av, List.map, shT_mk] at *
    refine PCall.intro (nt := 32) (rs := [.cell 2 27, .tmp 3]) Try.func27 rfl ⟨by kernel_rfl, by kernel_rfl, by kernel_rfl⟩ (by simp) ?_
    rintro ⟨P, w0, ok0, may, np, pblk⟩ rfl rfl
    repeat' (first
      | ((show W _ _ _ _); first | (refine W.seq fun K hK => ?_) | refine W.block ?_ | (refine W.reg rfl ?_; simp only [go_sem, reduceCtorEq]) | (refine W.regD Try_mo rfl rfl ?_; simp only [go_sem, reduceCtorEq]) | (refine W.skip ?_; simp only [go_sem]) | (refine W.exit ?_; simp only [go_sem]) | (refine W.ret (Post.ret ?_); simp only [go_sem, reduceCtorEq]) | refine W.condT rfl ?_ | refine W.condF rfl ?_ | refine W.cond rfl (fun h => ?_) (fun h => ?_))
      | ((show AX _ _ _ _ _); first | (refine AX.pcall rfl rfl (by simp only [go_sem, unim_im]; rfl) (by solve_by_elim) rfl rfl ?_; simp only [go_sem, reduceCtorEq]) | (refine AX.pcallF rfl rfl (by simp only [go_sem, unim_im]; rfl) (by simp only [go_sem, unim_im]; rfl) (by solve_by_elim) rfl rfl ?_; simp only [go_sem, reduceCtorEq]))
      | ((show indepK _ _ _ _ = true ∧ _); refine And.intro (by kernel_rfl) ?_)
      | ((show _ ∧ _); refine And.intro (by first | omega | assumption | (simp only [go_sem]; omega) | (simp; omega) | (simp; done)) ?_)
      | (refine hK _ ?_; clear hK K)
      | (clear hK K; refine hK _ ?_; clear hK K)
      | (clear hK K; clear hK K; refine hK _ ?_; clear hK K)
      | (clear hK K; clear hK K; clear hK K; refine hK _ ?_; clear hK K)
      | fail)
    refine AX.gcall [] rfl rfl (hn) (by simp only [go_sem, reduceCtorEq]) (by simp only [go_sem, reduceCtorEq]) rfl rfl (by simp only [go_sem, Obj.owns]) rfl (by simp only [go_sem, Obj.owns]) rfl rfl ?_
    simp only [go_sem, reduceCtorEq]
    repeat' (first
      | ((show W _ _ _ _); first | (refine W.seq fun K hK => ?_) | refine W.block ?_ | (refine W.reg rfl ?_; simp only [go_sem, reduceCtorEq]) | (refine W.regD Try_mo rfl rfl ?_; simp only [go_sem, reduceCtorEq]) | (refine W.skip ?_; simp only [go_sem]) | (refine W.exit ?_; simp only [go_sem]) | (refine W.ret (Post.ret ?_); simp only [go_sem, reduceCtorEq]) | refine W.condT rfl ?_ | refine W.condF rfl ?_ | refine W.cond rfl (fun h => ?_) (fun h => ?_))
      | ((show AX _ _ _ _ _); first | (refine AX.pcall rfl rfl (by simp only [go_sem, unim_im]; rfl) (by solve_by_elim) rfl rfl ?_; simp only [go_sem, reduceCtorEq]) | (refine AX.pcallF rfl rfl (by simp only [go_sem, unim_im]; rfl) (by simp only [go_sem, unim_im]; rfl) (by solve_by_elim) rfl rfl ?_; simp only [go_sem, reduceCtorEq]))
      | ((show indepK _ _ _ _ = true ∧ _); refine And.intro (by kernel_rfl) ?_)
      | ((show _ ∧ _); refine And.intro (by first | omega | assumption | (simp only [go_sem]; omega) | (simp; omega) | (simp; done)) ?_)
      | (refine hK _ ?_; clear hK K)
      | (clear hK K; refine hK _ ?_; clear hK K)
      | (clear hK K; clear hK K; refine hK _ ?_; clear hK K)
      | (clear hK K; clear hK K; clear hK K; refine hK _ ?_; clear hK K)
      | fail)
    refine AX.gcall [5, 3] rfl rfl (hc) (by simp only [go_sem, reduceCtorEq]) (by simp only [go_sem, reduceCtorEq]) rfl rfl (by simp only [go_sem, Obj.owns]) rfl (by simp only [go_sem, Obj.owns]) rfl rfl ?_
    simp only [go_sem, reduceCtorEq]
    repeat' (first
      | ((show W _ _ _ _); first | (refine W.seq fun K hK => ?_) | refine W.block ?_ | (refine W.reg rfl ?_; simp only [go_sem, reduceCtorEq, e1]) | (refine W.regD Try_mo rfl rfl ?_; simp only [go_sem, reduceCtorEq, e1]) | (refine W.skip ?_; simp only [go_sem]) | (refine W.exit ?_; simp only [go_sem]) | (refine W.ret (Post.ret ?_); simp only [go_sem, reduceCtorEq, e1]) | refine W.condT rfl ?_ | refine W.condF rfl ?_ | refine W.cond rfl (fun h => ?_) (fun h => ?_))
      | ((show AX _ _ _ _ _); first | (refine AX.pcall rfl rfl (by simp only [go_sem, unim_im]; rfl) (by solve_by_elim) rfl rfl ?_; simp only [go_sem, reduceCtorEq, e1]) | (refine AX.pcallF rfl rfl (by simp only [go_sem, unim_im]; rfl) (by simp only [go_sem, unim_im]; rfl) (by solve_by_elim) rfl rfl ?_; simp only [go_sem, reduceCtorEq, e1]))
      | ((show indepK _ _ _ _ = true ∧ _); refine And.intro (by kernel_rfl) ?_)
      | ((show _ ∧ _); refine And.intro (by first | omega | assumption | (simp only [go_sem]; omega) | (simp; omega) | (simp; done)) ?_)
      | (refine hK _ ?_; clear hK K)
      | (clear hK K; refine hK _ ?_; clear hK K)
      | (clear hK K; clear hK K; refine hK _ ?_; clear hK K)
      | (clear hK K; clear hK K; clear hK K; refine hK _ ?_; clear hK K)
      | fail)
    refine AX.gcall [3] rfl rfl (hl) (by simp only [go_sem, reduceCtorEq, e2]) (by simp only [go_sem, reduceCtorEq, e2]) rfl rfl (by simp only [go_sem, Obj.owns]) rfl (by simp only [go_sem, Obj.owns]) rfl rfl ?_
    simp only [go_sem, reduceCtorEq, e2]
    repeat' (first
      | ((show W _ _ _ _); first | (refine W.seq fun K hK => ?_) | refine W.block ?_ | (refine W.reg rfl ?_; simp only [go_sem, reduceCtorEq, e2, toList_arr, e3]) | (refine W.regD Try_mo rfl rfl ?_; simp only [go_sem, reduceCtorEq, e2, toList_arr, e3]) | (refine W.skip ?_; simp only [go_sem]) | (refine W.exit ?_; simp only [go_sem]) | (refine W.ret (Post.ret ?_); simp only [go_sem, reduceCtorEq, e2, toList_arr, e3]) | refine W.condT rfl ?_ | refine W.condF rfl ?_ | refine W.cond rfl (fun h => ?_) (fun h => ?_))
      | ((show AX _ _ _ _ _); first | (refine AX.pcall rfl rfl (by simp only [go_sem, unim_im]; rfl) (by solve_by_elim) rfl rfl ?_; simp only [go_sem, reduceCtorEq, e2, toList_arr, e3]) | (refine AX.pcallF rfl rfl (by simp only [go_sem, unim_im]; rfl) (by simp only [go_sem, unim_im]; rfl) (by solve_by_elim) rfl rfl ?_; simp only [go_sem, reduceCtorEq, e2, toList_arr, e3]))
      | ((show indepK _ _ _ _ = true ∧ _); refine And.intro (by kernel_rfl) ?_)
      | ((show _ ∧ _); refine And.intro (by first | omega | assumption | (simp only [go_sem]; omega) | (simp; omega) | (simp; done)) ?_)
      | (refine hK _ ?_; clear hK K)
      | (clear hK K; refine hK _ ?_; clear hK K)
      | (clear hK K; clear hK K; refine hK _ ?_; clear hK K)
      | (clear hK K; clear hK K; clear hK K; refine hK _ ?_; clear hK K)
      | fail)
end Go.Proofs.Ytegcmciglakicaa
namespace Go.Proofs.Ytegcmciglakicaa
open Go.RowKit Go.Exe
set_option linter.unusedVariables false
set_option linter.unusedSimpArgs false
set_option maxHeartbeats 1000000
set_option maxRecDepth 100000
attribute [local irreducible] W AX Run RunD AStep AOp AOpX AStB AStH AStG Fits PCall GCall PostG Post Stop

theorem ba_app (a b : List UInt8) : (⟨a.toArray⟩ : ByteArray) ++ (⟨b.toArray⟩ : ByteArray) = ⟨(a ++ b).toArray⟩ := by
  apply ByteArray.ext
  rw [ByteArray.data_append]
  simp
theorem ba_size (a : List UInt8) : (⟨a.toArray⟩ : ByteArray).size = a.length := by show a.toArray.size = _; simp
def KeyM (x : Shp) : Prop := x.keyW ≤ 140737488355328 → PCall Try.prog 28 [shT x] (ft (.string ⟨x.keyB.toArray⟩))
theorem keyM_c (s o : ByteArray) (ks : List Shp) (ih : ∀ x ∈ ks, KeyM x) : KeyM (.mk s o ks) := by
  intro hl
  have hkbl := keyB_len (.mk s o ks) (by omega)
  simp only [Shp.keyW] at hl
  have hs := textB_len s (by omega)
  have ho := textB_len o (by omega)
  have hkl := keysW_len ks
  have hn := numB_len (ks.length : Int) (by omega) (by omega)
  have hkb := keysB_len ks (by omega)
  have w1 := wr_nil (text_c [] s (by simp only [List.length_nil]; omega))
  rw [List.nil_append] at w1
  simp only [shT_mk, Shp.keyB]
  refine PCall.intro (nt := 33) (rs := [.tmp 2]) Try.func28 rfl ⟨by kernel_rfl, by kernel_rfl, by kernel_rfl⟩ (by simp) ?_
  rintro ⟨P, w0, ok0, may, np, pblk⟩ rfl rfl
  repeat' (first
    | ((show W _ _ _ _); first | (refine W.seq fun K hK => ?_) | refine W.block ?_ | (refine W.reg rfl ?_; simp only [go_sem, reduceCtorEq]) | (refine W.regD Try_mo rfl rfl ?_; simp only [go_sem, reduceCtorEq]) | (refine W.skip ?_; simp only [go_sem]) | (refine W.exit ?_; simp only [go_sem]) | (refine W.ret (Post.ret ?_); simp only [go_sem, reduceCtorEq]) | refine W.condT rfl ?_ | refine W.condF rfl ?_ | refine W.cond rfl (fun h => ?_) (fun h => ?_))
    | ((show AX _ _ _ _ _); first | (refine AX.pcall rfl rfl (by simp only [go_sem, unim_im]; rfl) (by solve_by_elim) rfl rfl ?_; simp only [go_sem, reduceCtorEq]) | (refine AX.pcallF rfl rfl (by simp only [go_sem, unim_im]; rfl) (by simp only [go_sem, unim_im]; rfl) (by solve_by_elim) rfl rfl ?_; simp only [go_sem, reduceCtorEq]))
    | ((show indepK _ _ _ _ = true ∧ _); refine And.intro (by kernel_rfl) ?_)
    | ((show _ ∧ _); refine And.intro (by first | omega | assumption | (simp only [go_sem]; omega) | (simp; omega) | (simp; done)) ?_)
    | (refine hK _ ?_; clear hK K)
    | (clear hK K; refine hK _ ?_; clear hK K)
    | (clear hK K; clear hK K; refine hK _ ?_; clear hK K)
    | (clear hK K; clear hK K; clear hK K; refine hK _ ?_; clear hK K)
    | fail)
  refine AX.gcall [2] rfl rfl (w1) (by simp only [go_sem, reduceCtorEq]) (by simp only [go_sem, reduceCtorEq]) rfl rfl (by simp only [go_sem, Obj.owns]) rfl (by simp only [go_sem, Obj.owns]) rfl rfl ?_
  simp only [go_sem, reduceCtorEq]
  repeat' (first
    | ((show W _ _ _ _); first | (refine W.seq fun K hK => ?_) | refine W.block ?_ | (refine W.reg rfl ?_; simp only [go_sem, reduceCtorEq]) | (refine W.regD Try_mo rfl rfl ?_; simp only [go_sem, reduceCtorEq]) | (refine W.skip ?_; simp only [go_sem]) | (refine W.exit ?_; simp only [go_sem]) | (refine W.ret (Post.ret ?_); simp only [go_sem, reduceCtorEq]) | refine W.condT rfl ?_ | refine W.condF rfl ?_ | refine W.cond rfl (fun h => ?_) (fun h => ?_))
    | ((show AX _ _ _ _ _); first | (refine AX.pcall rfl rfl (by simp only [go_sem, unim_im]; rfl) (by solve_by_elim) rfl rfl ?_; simp only [go_sem, reduceCtorEq]) | (refine AX.pcallF rfl rfl (by simp only [go_sem, unim_im]; rfl) (by simp only [go_sem, unim_im]; rfl) (by solve_by_elim) rfl rfl ?_; simp only [go_sem, reduceCtorEq]))
    | ((show indepK _ _ _ _ = true ∧ _); refine And.intro (by kernel_rfl) ?_)
    | ((show _ ∧ _); refine And.intro (by first | omega | assumption | (simp only [go_sem]; omega) | (simp; omega) | (simp; done)) ?_)
    | (refine hK _ ?_; clear hK K)
    | (clear hK K; refine hK _ ?_; clear hK K)
    | (clear hK K; clear hK K; refine hK _ ?_; clear hK K)
    | (clear hK K; clear hK K; clear hK K; refine hK _ ?_; clear hK K)
    | fail)
  refine AX.gcall [2, 5] rfl rfl (text_c (textB s) o (by omega)) (by simp only [go_sem, reduceCtorEq]) (by simp only [go_sem, reduceCtorEq]) rfl rfl (by simp only [go_sem, Obj.owns]) rfl (by simp only [go_sem, Obj.owns]) rfl rfl ?_
  simp only [go_sem, reduceCtorEq]
  repeat' (first
    | ((show W _ _ _ _); first | (refine W.seq fun K hK => ?_) | refine W.block ?_ | (refine W.reg rfl ?_; simp only [go_sem, reduceCtorEq, avs_len]) | (refine W.regD Try_mo rfl rfl ?_; simp only [go_sem, reduceCtorEq, avs_len]) | (refine W.skip ?_; simp only [go_sem]) | (refine W.exit ?_; simp only [go_sem]) | (refine W.ret (Post.ret ?_); simp only [go_sem, reduceCtorEq, avs_len]) | refine W.condT rfl ?_ | refine W.condF rfl ?_ | refine W.cond rfl (fun h => ?_) (fun h => ?_))
    | ((show AX _ _ _ _ _); first | (refine AX.pcall rfl rfl (by simp only [go_sem, unim_im]; rfl) (by solve_by_elim) rfl rfl ?_; simp only [go_sem, reduceCtorEq, avs_len]) | (refine AX.pcallF rfl rfl (by simp only [go_sem, unim_im]; rfl) (by simp only [go_sem, unim_im]; rfl) (by solve_by_elim) rfl rfl ?_; simp only [go_sem, reduceCtorEq, avs_len]))
    | ((show indepK _ _ _ _ = true ∧ _); refine And.intro (by kernel_rfl) ?_)
    | ((show _ ∧ _); refine And.intro (by first | omega | assumption | (simp only [go_sem]; omega) | (simp; omega) | (simp; done)) ?_)
    | (refine hK _ ?_; clear hK K)
    | (clear hK K; refine hK _ ?_; clear hK K)
    | (clear hK K; clear hK K; refine hK _ ?_; clear hK K)
    | (clear hK K; clear hK K; clear hK K; refine hK _ ?_; clear hK K)
    | fail)
  refine AX.gcall [2, 8] rfl rfl (number_c (textB s ++ textB o) (ks.length : Int) (by omega) (by omega) (by simp only [List.length_append]; omega)) (by simp only [go_sem, reduceCtorEq]) (by simp only [go_sem, reduceCtorEq]) rfl rfl (by simp only [go_sem, Obj.owns]) rfl (by simp only [go_sem, Obj.owns]) rfl rfl ?_
  simp only [go_sem, reduceCtorEq]
  repeat' (first
    | ((show W _ _ _ _); first | (refine W.seq fun K hK => ?_) | refine W.block ?_ | (refine W.reg rfl ?_; simp only [go_sem, reduceCtorEq]) | (refine W.regD Try_mo rfl rfl ?_; simp only [go_sem, reduceCtorEq]) | (refine W.skip ?_; simp only [go_sem]) | (refine W.exit ?_; simp only [go_sem]) | (refine W.ret (Post.ret ?_); simp only [go_sem, reduceCtorEq]) | refine W.condT rfl ?_ | refine W.condF rfl ?_ | refine W.cond rfl (fun h => ?_) (fun h => ?_))
    | ((show AX _ _ _ _ _); first | (refine AX.pcall rfl rfl (by simp only [go_sem, unim_im]; rfl) (by solve_by_elim) rfl rfl ?_; simp only [go_sem, reduceCtorEq]) | (refine AX.pcallF rfl rfl (by simp only [go_sem, unim_im]; rfl) (by simp only [go_sem, unim_im]; rfl) (by solve_by_elim) rfl rfl ?_; simp only [go_sem, reduceCtorEq]))
    | ((show indepK _ _ _ _ = true ∧ _); refine And.intro (by kernel_rfl) ?_)
    | ((show _ ∧ _); refine And.intro (by first | omega | assumption | (simp only [go_sem]; omega) | (simp; omega) | (simp; done)) ?_)
    | (refine hK _ ?_; clear hK K)
    | (clear hK K; refine hK _ ?_; clear hK K)
    | (clear hK K; clear hK K; refine hK _ ?_; clear hK K)
    | (clear hK K; clear hK K; clear hK K; refine hK _ ?_; clear hK K)
    | fail)
  refine AX.gcall [2, 12] rfl rfl (bytes_c (textB s ++ textB o ++ numB (ks.length : Int))) (by simp only [go_sem, reduceCtorEq]) (by simp only [go_sem, reduceCtorEq]) rfl rfl (by simp only [go_sem, Obj.owns]) rfl (by simp only [go_sem, Obj.owns]) rfl rfl ?_
  simp only [go_sem, reduceCtorEq]
  repeat' (first
    | ((show W _ _ _ _); first | (refine W.seq fun K hK => ?_) | refine W.block ?_ | (refine W.reg rfl ?_; simp only [go_sem, reduceCtorEq]) | (refine W.regD Try_mo rfl rfl ?_; simp only [go_sem, reduceCtorEq]) | (refine W.skip ?_; simp only [go_sem]) | (refine W.exit ?_; simp only [go_sem]) | (refine W.ret (Post.ret ?_); simp only [go_sem, reduceCtorEq]) | refine W.condT rfl ?_ | refine W.condF rfl ?_ | refine W.cond rfl (fun h => ?_) (fun h => ?_))
    | ((show AX _ _ _ _ _); first | (refine AX.pcall rfl rfl (by simp only [go_sem, unim_im]; rfl) (by solve_by_elim) rfl rfl ?_; simp only [go_sem, reduceCtorEq]) | (refine AX.pcallF rfl rfl (by simp only [go_sem, unim_im]; rfl) (by simp only [go_sem, unim_im]; rfl) (by solve_by_elim) rfl rfl ?_; simp only [go_sem, reduceCtorEq]))
    | ((show indepK _ _ _ _ = true ∧ _); refine And.intro (by kernel_rfl) ?_)
    | ((show _ ∧ _); refine And.intro (by first | omega | assumption | (simp only [go_sem]; omega) | (simp; omega) | (simp; done)) ?_)
    | (refine hK _ ?_; clear hK K)
    | (clear hK K; refine hK _ ?_; clear hK K)
    | (clear hK K; clear hK K; refine hK _ ?_; clear hK K)
    | (clear hK K; clear hK K; clear hK K; refine hK _ ?_; clear hK K)
    | fail)
  refine W.loopF (T := fun i : Nat => { t := [(1, .c (.ptr 0 0)), (4, ft (.string ⟨(textB s ++ textB o ++ numB (ks.length : Int) ++ keysB (ks.take i)).toArray⟩)), (5, ft (.int .i64 (i : Nat)))], h := [(0, .box 27 [fl (.string s), fl (.string o), .im (.sl 27 (avs ks))])], nx := 1, ex := [], nt := 33 })
    (Inv := fun i => i ≤ ks.length) (μ := fun i => ks.length - i) (x0 := 0) (Fits.fit [(0, 0)] [1, 4, 5] 1 rfl rfl ?_) (Nat.zero_le _) ?_
  · simp only [go_sem, List.take_zero, keysB, List.append_nil]
    exact Fits.rfl
  intro i hi KL hKL
  by_cases hlt : i < ks.length
  · obtain ⟨x, hx, hm, hd⟩ := drop_at hlt
    have e1 : decide ((i : Int) < ks.length) = true := by simp; omega
    have hw := w64s i (by omega)
    have hW := keysW_take hx
    have hkb2 := keysB_len (ks.take i) (by omega)
    have hxl := keyB_len x (by omega)
    have hc := ih x hm (by omega)
    have hsz : (⟨(textB s ++ textB o ++ numB (ks.length : Int) ++ keysB (ks.take i)).toArray⟩ : ByteArray).size + (⟨x.keyB.toArray⟩ : ByteArray).size ≤ 9223372036854775807 := by
      rw [ba_size, ba_size]; simp only [List.length_append]; omega
    have htk : keysB (ks.take (i + 1)) = keysB (ks.take i) ++ x.keyB := by rw [take_at hx, keysB_app]; simp [keysB]
    generalize x.keyB = xk at *
    obtain ⟨s', o', ks'⟩ := x
    simp only [shT_mk] at hc
    repeat' (first
      | ((show W _ _ _ _); first | (refine W.seq fun K hK => ?_) | refine W.block ?_ | (refine W.reg rfl ?_; simp only [go_sem, reduceCtorEq, avs_len, avs_get, hx, Shp.av, e1, hw]) | (refine W.regD Try_mo rfl rfl ?_; simp only [go_sem, reduceCtorEq, avs_len, avs_get, hx, Shp.av, e1, hw]) | (refine W.skip ?_; simp only [go_sem]) | (refine W.exit ?_; simp only [go_sem]) | (refine W.ret (Post.ret ?_); simp only [go_sem, reduceCtorEq, avs_len, avs_get, hx, Shp.av, e1, hw]) | refine W.condT rfl ?_ | refine W.condF rfl ?_ | refine W.cond rfl (fun h => ?_) (fun h => ?_))
      | ((show AX _ _ _ _ _); first | (refine AX.pcall rfl rfl (by simp only [go_sem, unim_im]; rfl) (by solve_by_elim) rfl rfl ?_; simp only [go_sem, reduceCtorEq, avs_len, avs_get, hx, Shp.av, e1, hw]) | (refine AX.pcallF rfl rfl (by simp only [go_sem, unim_im]; rfl) (by simp only [go_sem, unim_im]; rfl) (by solve_by_elim) rfl rfl ?_; simp only [go_sem, reduceCtorEq, avs_len, avs_get, hx, Shp.av, e1, hw]))
      | ((show indepK _ _ _ _ = true ∧ _); refine And.intro (by kernel_rfl) ?_)
      | ((show _ ∧ _); refine And.intro (by first | omega | assumption | (simp only [go_sem]; omega) | (simp; omega) | (simp; done)) ?_)
      | (refine hK _ ?_; clear hK K)
      | (clear hK K; refine hK _ ?_; clear hK K)
      | (clear hK K; clear hK K; refine hK _ ?_; clear hK K)
      | (clear hK K; clear hK K; clear hK K; refine hK _ ?_; clear hK K)
      | fail)
    refine hKL.to (i + 1) (by omega) (by omega) (Fits.fit [(0, 0)] [1, 4, 5] 1 rfl rfl ?_)
    simp only [go_sem, htk, ba_app, List.append_assoc]
    exact Fits.rfl
  · have e1 : decide ((i : Int) < ks.length) = false := by simp; omega
    obtain rfl : i = ks.length := by omega
    clear hKL
    repeat' (first
      | ((show W _ _ _ _); first | (refine W.seq fun K hK => ?_) | refine W.block ?_ | (refine W.reg rfl ?_; simp only [go_sem, reduceCtorEq, avs_len, e1]) | (refine W.regD Try_mo rfl rfl ?_; simp only [go_sem, reduceCtorEq, avs_len, e1]) | (refine W.skip ?_; simp only [go_sem]) | (refine W.exit ?_; simp only [go_sem]) | (refine W.ret (Post.ret ?_); simp only [go_sem, reduceCtorEq, avs_len, e1]) | refine W.condT rfl ?_ | refine W.condF rfl ?_ | refine W.cond rfl (fun h => ?_) (fun h => ?_))
      | ((show AX _ _ _ _ _); first | (refine AX.pcall rfl rfl (by simp only [go_sem, unim_im]; rfl) (by solve_by_elim) rfl rfl ?_; simp only [go_sem, reduceCtorEq, avs_len, e1]) | (refine AX.pcallF rfl rfl (by simp only [go_sem, unim_im]; rfl) (by simp only [go_sem, unim_im]; rfl) (by solve_by_elim) rfl rfl ?_; simp only [go_sem, reduceCtorEq, avs_len, e1]))
      | ((show indepK _ _ _ _ = true ∧ _); refine And.intro (by kernel_rfl) ?_)
      | ((show _ ∧ _); refine And.intro (by first | omega | assumption | (simp only [go_sem]; omega) | (simp; omega) | (simp; done)) ?_)
      | (refine hK _ ?_; clear hK K)
      | (clear hK K; refine hK _ ?_; clear hK K)
      | (clear hK K; clear hK K; refine hK _ ?_; clear hK K)
      | (clear hK K; clear hK K; clear hK K; refine hK _ ?_; clear hK K)
      | fail)
    simp
theorem keyM_all : ∀ x : Shp, KeyM x
  | .mk s o ks => keyM_c s o ks fun x hx => keyM_all x
termination_by x => SizeOf.sizeOf x
decreasing_by
  have := List.sizeOf_lt_of_mem hx
  simp only [Shp.mk.sizeOf_spec]
  omega
end Go.Proofs.Ytegcmciglakicaa
namespace Go.Proofs.Ytegcmciglakicaa
open Go.RowKit Go.Exe
set_option linter.unusedVariables false
set_option linter.unusedSimpArgs false
set_option maxRecDepth 100000

theorem size_toList (s : ByteArray) : s.toList.length = s.size := by rw [ByteArray.toList_eq]; simp
theorem byteAt_mid {s : ByteArray} {pre mid post : List UInt8} (h : s.toList = pre ++ mid ++ post) {i : Nat} {b : UInt8} (hb : mid[i]? = some b) : byteAt s (pre.length + i) = b.toNat := by
  have hl := (List.getElem?_eq_some_iff.1 hb).1
  unfold byteAt
  rw [h, List.getD_eq_getElem?_getD, List.append_assoc, List.getElem?_append_right (by omega), Nat.add_sub_cancel_left, List.getElem?_append_left hl, hb]
  rfl
theorem nsize_lo : ∀ (k m : Nat), m < 256 ^ k → 0 < m → 256 ^ (nsize m - 1) ≤ m
  | 0, m, h, h0 => by simp at h; omega
  | k + 1, m, h, h0 => by
    rw [nsize_s h0]
    by_cases h1 : m / 256 = 0
    · rw [h1, nsize_0]; simp; omega
    · have := nsize_lo k (m / 256) (by rw [Nat.pow_succ] at h; omega) (by omega)
      have h2 : nsize (m / 256) ≠ 0 := by rw [nsize_s (by omega)]; omega
      have e : 1 + nsize (m / 256) - 1 = (nsize (m / 256) - 1) + 1 := by omega
      rw [e, Nat.pow_succ]
      omega
theorem nval_snoc (l : List UInt8) (b : UInt8) : nval (l ++ [b]) = nval l * 256 + b.toNat := by simp [nval, List.foldl_append]
theorem mag_mid {s : ByteArray} {pre mid post : List UInt8} (h : s.toList = pre ++ mid ++ post) : ∀ i, i ≤ mid.length → mag s pre.length false i = nval (mid.take i)
  | 0, _ => rfl
  | i + 1, hi => by
    have ih := mag_mid h i (by omega)
    have hb : mid[i]? = some mid[i] := List.getElem?_eq_getElem (by omega)
    have := byteAt_mid h hb
    rw [List.take_add_one, hb]
    simp only [mag, Option.toList_some, nval_snoc, ih, rb, this]
    rfl
theorem rdNum_mid {s : ByteArray} {pre post : List UInt8} {n : Nat} (hn : n < 9223372036854775808) (h : s.toList = pre ++ numB (n : Int) ++ post) : rdNum s pre.length = ((n : Int), pre.length + (numB (n : Int)).length, 0) := by
  have hnb : numB (n : Int) = UInt8.ofNat (128 + nsize n) :: nbytes n := by rw [numB_pos (by omega)]; simp
  have hs8 := nsize_le 8 n (by omega)
  have hlen : (numB (n : Int)).length = 1 + nsize n := by rw [hnb, List.length_cons, nbytes_len]; omega
  have hsz : s.size = pre.length + (1 + nsize n) + post.length := by rw [← size_toList, h]; simp only [List.length_append, hlen]
  have hb0 : byteAt s pre.length = 128 + nsize n := by
    have := byteAt_mid (i := 0) (b := UInt8.ofNat (128 + nsize n)) h (by rw [hnb]; rfl)
    rw [Nat.add_zero] at this
    rw [this, UInt8.toNat_ofNat_of_lt' (by simp [UInt8.size]; omega)]
  have h' : s.toList = (pre ++ [UInt8.ofNat (128 + nsize n)]) ++ nbytes n ++ post := by rw [h, hnb]; simp
  have hpl : (pre ++ [UInt8.ofNat (128 + nsize n)]).length = pre.length + 1 := by simp
  have hmag : ∀ i, i ≤ nsize n → mag s (pre.length + 1) false i = n / 256 ^ (nsize n - i) := fun i hi => by
    have := mag_mid h' i (by rw [nbytes_len]; exact hi)
    rw [hpl] at this
    rw [this, nval_take (by omega) i hi]
  have hrs : rdSize (byteAt s pre.length) = nsize n := by rw [hb0]; unfold rdSize; split <;> omega
  have hneg : decide (byteAt s pre.length < 128) = false := by rw [hb0]; simp
  unfold rdNum
  rw [if_neg (by omega), hrs, if_neg (by omega), hneg]
  unfold rdMag
  rw [if_neg (by omega), if_neg, hmag _ (Nat.le_refl _), Nat.sub_self, Nat.pow_zero, Nat.div_one]
  · unfold rdEnd
    rw [if_neg (by simp), if_neg (by omega), hlen]
    simp only [Prod.mk.injEq, and_true, true_and]
    omega
  · rintro ⟨h1, h2⟩
    have h3 := hmag 1 h1
    have h4 : mag s (pre.length + 1) false 1 = rb s (pre.length + 1) false 0 := by simp [mag]
    rw [h4, h2] at h3
    have h5 : 0 < n := by
      rcases Nat.eq_zero_or_pos n with e | e
      · rw [e, nsize_0] at h1; omega
      · exact e
    have h6 := nsize_lo 8 n (by omega) h5
    have h7 := Nat.div_pos h6 (Nat.pow_pos (by omega : 0 < 256))
    omega
theorem txt_mid {s : ByteArray} {pre post : List UInt8} {b : ByteArray} (hb : b.size ≤ 4096) (h : s.toList = pre ++ textB b ++ post) : txV s pre.length 0 = b ∧ txA s pre.length 0 = pre.length + (textB b).length ∧ txE s pre.length 0 = 0 := by
  have hn := rdNum_mid (s := s) (pre := pre) (post := b.data.toList ++ post) (n := b.size) (by omega) (by rw [h, textB]; simp)
  have hlen : (textB b).length = (numB (b.size : Int)).length + b.size := by simp [textB]
  have hsz : s.size = pre.length + (textB b).length + post.length := by rw [← size_toList, h]; simp only [List.length_append]
  have he : rdErr s pre.length 5 = 0 := by
    unfold rdErr
    rw [hn]
    simp only
    rw [if_neg (by simp), if_neg (by omega), if_neg (by omega), if_neg (by omega)]
  have hc : rdCnt s pre.length = b.size := by unfold rdCnt; rw [hn]; simp
  have hx : rdNxt s pre.length = pre.length + (numB (b.size : Int)).length := by unfold rdNxt; rw [hn]
  refine ⟨?_, ?_, ?_⟩
  · unfold txV
    rw [if_neg (by simp), if_pos he, hx, hc]
    apply ByteArray.ext
    apply Array.toList_inj.1
    rw [ByteArray.data_extract, Array.toList_extract]
    have hd : s.data.toList = (pre ++ numB (b.size : Int)) ++ (b.data.toList ++ post) := by rw [← ByteArray.toList_eq, h, textB]; simp
    rw [hd, List.extract_eq_take_drop, List.drop_append_of_le_length (by simp), List.drop_of_length_le (by simp), List.nil_append, List.take_append_of_le_length (by simp), List.take_of_length_le (by simp)]
  · unfold txA
    rw [if_neg (by simp), if_pos he, hx, hc, hlen]; omega
  · unfold txE
    rw [if_neg (by simp), he]
theorem cnt_mid {s : ByteArray} {pre post : List UInt8} {n : Nat} (hn : n ≤ 4096) (hp : n ≤ post.length) (h : s.toList = pre ++ numB (n : Int) ++ post) : cnV s pre.length 0 = n ∧ cnA s pre.length 0 = pre.length + (numB (n : Int)).length ∧ cnE s pre.length 0 = 0 := by
  have hr := rdNum_mid (s := s) (pre := pre) (post := post) (n := n) (by omega) h
  have hsz : s.size = pre.length + (numB (n : Int)).length + post.length := by rw [← size_toList, h]; simp only [List.length_append]
  have he : rdErr s pre.length 6 = 0 := by
    unfold rdErr
    rw [hr]
    simp only
    rw [if_neg (by simp), if_neg (by omega), if_neg (by omega), if_neg (by omega)]
  refine ⟨?_, ?_, ?_⟩
  · unfold cnV
    rw [if_neg (by simp), if_pos he]; unfold rdCnt; rw [hr]; simp
  · unfold cnA
    rw [if_neg (by simp), if_pos he]; unfold rdNxt; rw [hr]
  · unfold cnE
    rw [if_neg (by simp), he]
mutual
/-- A shape whose texts and lists are short. -/
def Shp.sm : Shp → Prop
  | .mk s o ks => s.size ≤ 4096 ∧ o.size ≤ 4096 ∧ ks.length ≤ 4096 ∧ sms ks
def sms : List Shp → Prop
  | [] => True
  | x :: r => x.sm ∧ sms r
end
theorem keyB_pos (x : Shp) : 1 ≤ x.keyB.length := by
  cases x with
  | mk s o ks => simp only [Shp.keyB, List.length_append, textB, numB, List.length_cons]; omega
theorem keysB_ge : ∀ l : List Shp, l.length ≤ (keysB l).length
  | [] => by simp
  | x :: r => by have := keyB_pos x; have := keysB_ge r; simp only [keysB, List.length_cons, List.length_append]; omega
mutual
theorem decF_key {s : ByteArray} : ∀ (x : Shp) (f k : Nat) (pre post : List UInt8), x.sm → k + x.size ≤ 4096 → 4096 ≤ k + f → s.toList = pre ++ x.keyB ++ post → decF s f k pre.length 0 = ⟨x, k + x.size, pre.length + x.keyB.length, 0, 0⟩
  | .mk sv o ks, 0, k, pre, post, hm, hk, hf, h => by simp only [Shp.size] at hk; omega
  | .mk sv o ks, f + 1, k, pre, post, hm, hk, hf, h => by
    simp only [Shp.size] at hk
    simp only [Shp.sm] at hm
    obtain ⟨m1, m2, m3, m4⟩ := hm
    simp only [Shp.keyB] at h
    have h1 := txt_mid (s := s) (pre := pre) (post := textB o ++ (numB (ks.length : Int) ++ keysB ks) ++ post) m1 (by rw [h]; simp)
    have h2 := txt_mid (s := s) (pre := pre ++ textB sv) (post := numB (ks.length : Int) ++ keysB ks ++ post) m2 (by rw [h]; simp)
    have hkg := keysB_ge ks
    have h3 := cnt_mid (s := s) (pre := pre ++ textB sv ++ textB o) (post := keysB ks ++ post) (n := ks.length) m3 (by rw [List.length_append]; omega) (by rw [h]; simp)
    simp only [List.length_append] at h2 h3
    have h4 := kidF_key ks f (k + 1) (pre ++ textB sv ++ textB o ++ numB (ks.length : Int)) post [] m4 (by omega) (by omega) (by rw [h]; simp)
    simp only [List.length_append] at h4
    have a1 : hdA s pre.length 0 = pre.length + (textB sv).length + (textB o).length + (numB (ks.length : Int)).length := by unfold hdA; rw [h1.2.1, h1.2.2, h2.2.1, h2.2.2, h3.2.1]
    have a2 : hdE s pre.length 0 = 0 := by unfold hdE; rw [h1.2.1, h1.2.2, h2.2.1, h2.2.2, h3.2.2]
    have a3 : hdN s pre.length 0 = ks.length := by unfold hdN; rw [h1.2.1, h1.2.2, h2.2.1, h2.2.2, h3.1]
    have a4 : hdO s pre.length 0 = o := by unfold hdO; rw [h1.2.1, h1.2.2, h2.1]
    rw [decF, if_neg (by omega), a1, a2, a3, a4, h4, h1.1]
    simp only [List.nil_append, ne_eq, not_true_eq_false, if_false, Shp.size, Shp.keyB, List.length_append, DR.mk.injEq, true_and, and_true]
    omega
theorem kidF_key {s : ByteArray} : ∀ (ks : List Shp) (f k : Nat) (pre post : List UInt8) (acc : List Shp), sms ks → k + sizes ks ≤ 4096 → 4096 ≤ k + f → s.toList = pre ++ keysB ks ++ post → kidF s f ks.length k pre.length 0 acc = ⟨acc ++ ks, k + sizes ks, pre.length + (keysB ks).length, 0, 0⟩
  | [], f, k, pre, post, acc, hm, hk, hf, h => by simp [kidF, sizes, keysB]
  | x :: r, f, k, pre, post, acc, hm, hk, hf, h => by
    simp only [sizes] at hk
    simp only [sms] at hm
    simp only [keysB] at h
    have h1 := decF_key x f k pre (keysB r ++ post) hm.1 (by omega) hf (by rw [h]; simp)
    have h2 := kidF_key r f (k + x.size) (pre ++ x.keyB) post (acc ++ [x]) hm.2 (by omega) (by omega) (by rw [h]; simp)
    rw [List.length_append] at h2
    rw [List.length_cons, kidF, h1]
    simp only [ne_eq, not_true_eq_false, if_false]
    rw [h2]
    simp only [sizes, keysB, List.append_assoc, List.cons_append, List.nil_append, List.length_append, KR.mk.injEq, true_and, and_true]
    omega
end
theorem decR_key (x : Shp) (hm : x.sm) (hs : x.size ≤ 4096) (hc : x.canon = x) : decR ⟨x.keyB.toArray⟩ = (x, 0) := by
  have h := decF_key (s := ⟨x.keyB.toArray⟩) x 4096 0 [] [] hm (by omega) (by omega) (by rw [toList_arr]; simp)
  rw [List.length_nil] at h
  unfold decR
  rw [h]
  simp only [ne_eq, not_true_eq_false, if_false]
  rw [if_neg (by rw [ba_size]; omega), hc, toList_arr, if_pos rfl]
end Go.Proofs.Ytegcmciglakicaa
namespace Go.Proofs.Ytegcmciglakicaa
open Go.RowKit Go.Exe
set_option linter.unusedVariables false
set_option linter.unusedSimpArgs false
set_option maxHeartbeats 1000000
set_option maxRecDepth 100000
attribute [local irreducible] W AX Run RunD AStep AOp AOpX AStB AStH AStG Fits PCall GCall PostG Post Stop

theorem sms_perm {l m : List Shp} (h : l.Perm m) : sms l ↔ sms m := by
  induction h with
  | nil => exact Iff.rfl
  | cons x _ ih => simp [sms, ih]
  | swap x y l => simp only [sms]; exact ⟨fun ⟨a, b, c⟩ => ⟨b, a, c⟩, fun ⟨a, b, c⟩ => ⟨b, a, c⟩⟩
  | trans _ _ h1 h2 => exact h1.trans h2
mutual
theorem canon_sm : ∀ x : Shp, x.canon.sm ↔ x.sm
  | .mk s o ks => by
    have hl : (srt (canons ks)).length = ks.length := by rw [(srt_perm _).length_eq, canons_map, List.length_map]
    simp only [Shp.canon, Shp.sm, hl]; rw [sms_perm (srt_perm _), canons_sm ks]
theorem canons_sm : ∀ l : List Shp, sms (canons l) ↔ sms l
  | [] => Iff.rfl
  | x :: r => by simp only [canons, sms]; rw [canon_sm x, canons_sm r]
end
mutual
theorem growF_sm : ∀ (f : Nat) (p : List Nat), (growF f p).1.sm
  | 0, p => by simp [growF, Shp.sm, sms]
  | f + 1, [] => by simp [growF, Shp.sm, sms]
  | f + 1, b :: r => by
    have h1 := kidsF_sm f (b / 3 % 4) r
    have h2 := svc_size b
    have h3 := opn_size b
    simp only [growF, Shp.sm]
    exact ⟨by omega, by omega, by omega, h1.1⟩
termination_by f _ => (f, 0)
theorem kidsF_sm : ∀ (f n : Nat) (p : List Nat), sms (kidsF f n p).1 ∧ (kidsF f n p).1.length ≤ n
  | _, 0, l => by simp [kidsF, sms]
  | _, _ + 1, [] => by simp [kidsF, sms]
  | f, n + 1, b :: r => by
    have h1 := growF_sm f (b :: r)
    have h2 := kidsF_sm f n (growF f (b :: r)).2
    simp only [kidsF, sms, List.length_cons]
    exact ⟨⟨h1, h2.1⟩, by omega⟩
termination_by f n _ => (f, n + 1)
end
theorem madeP_sm (p : List Nat) : (madeP p).sm := growF_sm 24 (p.take 24)
theorem keyB_inj {x y : Shp} (hx : x.sm) (hy : y.sm) (sx : x.size ≤ 4096) (sy : y.size ≤ 4096) (cx : x.canon = x) (cy : y.canon = y) (h : x.keyB = y.keyB) : x = y := by
  have h1 := decR_key x hx sx cx
  have h2 := decR_key y hy sy cy
  rw [h, h2] at h1
  exact (congrArg Prod.fst h1).symm
theorem keys_c (p q : List Nat) (x y xc yc : Shp) (ka kb : List UInt8) (c8 : PCall Try.prog 8 [] (ft (.bool true)))
    (cp : PCall Try.prog 9 [planT p] (shT x)) (cq : PCall Try.prog 9 [planT q] (shT y))
    (c26a : PCall Try.prog 26 [shT x] (ft (.string ⟨ka.toArray⟩))) (c26b : PCall Try.prog 26 [shT y] (ft (.string ⟨kb.toArray⟩)))
    (c27 : PCall Try.prog 27 [ft (.string ⟨ka.toArray⟩)] (dT xc 0))
    (c13 : PCall Try.prog 13 [shT x] (shT xc)) (c28 : PCall Try.prog 28 [shT xc] (ft (.string ⟨ka.toArray⟩)))
    (c11 : PCall Try.prog 11 [shT xc, shT xc] (ft (.bool true))) (c15 : PCall Try.prog 15 [shT x, shT y] (ft (.bool (ka == kb)))) :
    PCall Try.prog 6 [planT p, planT q] (ft (.bool true)) := by
  have e1 : (ka == ka) = true := by simp
  have e2 : ∀ u : Bool, (u == u) = true := fun u => by simp
  have e3 : ((0 : Int) == 0) = true := rfl
  obtain ⟨s, o, ks⟩ := x
  obtain ⟨s1, o1, ks1⟩ := y
  obtain ⟨s2, o2, ks2⟩ := xc
  simp only [shT_mk, planT, dT, Shp.av, List.map] at *
  refine PCall.intro (nt := 48) (rs := [.tmp 4]) Try.func6 rfl ⟨by kernel_rfl, by kernel_rfl, by kernel_rfl⟩ (by simp) ?_
  rintro ⟨P, w0, ok0, may, np, pblk⟩ rfl rfl
  repeat' (first
    | ((show W _ _ _ _); first | (refine W.seq fun K hK => ?_) | refine W.block ?_ | (refine W.reg rfl ?_; simp only [go_sem, reduceCtorEq, toList_arr, e1, e2, e3]) | (refine W.regD Try_mo rfl rfl ?_; simp only [go_sem, reduceCtorEq, toList_arr, e1, e2, e3]) | (refine W.skip ?_; simp only [go_sem]) | (refine W.exit ?_; simp only [go_sem]) | (refine W.ret (Post.ret ?_); simp only [go_sem, reduceCtorEq, toList_arr, e1, e2, e3]) | refine W.condT rfl ?_ | refine W.condF rfl ?_ | refine W.cond rfl (fun h => ?_) (fun h => ?_))
    | ((show AX _ _ _ _ _); first | (refine AX.pcall rfl rfl (by simp only [go_sem, unim_im]; rfl) (by solve_by_elim) rfl rfl ?_; simp only [go_sem, reduceCtorEq, toList_arr, e1, e2, e3]) | (refine AX.pcallF rfl rfl (by simp only [go_sem, unim_im]; rfl) (by simp only [go_sem, unim_im]; rfl) (by solve_by_elim) rfl rfl ?_; simp only [go_sem, reduceCtorEq, toList_arr, e1, e2, e3]))
    | ((show indepK _ _ _ _ = true ∧ _); refine And.intro (by kernel_rfl) ?_)
    | ((show _ ∧ _); refine And.intro (by first | omega | assumption | (simp only [go_sem]; omega) | (simp; omega) | (simp; done)) ?_)
    | (refine hK _ ?_; clear hK K)
    | (clear hK K; refine hK _ ?_; clear hK K)
    | (clear hK K; clear hK K; refine hK _ ?_; clear hK K)
    | (clear hK K; clear hK K; clear hK K; refine hK _ ?_; clear hK K)
    | fail)
theorem keys_true (c35 : SortC Try.prog 35 3) (c55 : SortC Try.prog 55 2) (p q : List Nat) (hp : ∀ x ∈ p, x < 256) (hq : ∀ x ∈ q, x < 256) : PCall Try.prog 6 [planT p, planT q] (ft (.bool true)) := by
  have hsp := madeP_size p
  have hsq := madeP_size q
  have hkp := madeP_keyW p
  have hkq := madeP_keyW q
  have hmp := madeP_sm p
  have hmq := madeP_sm q
  have cp := made_c p hp
  have cq := made_c q hq
  have c13 := all13 (madeP p)
  rw [mcanon_eq] at c13
  generalize madeP p = x at *
  generalize madeP q = y at *
  have dk := decR_key x.canon ((canon_sm _).2 hmp) (by rw [canon_size]; omega) (canon_idem x)
  have c27 := Decode_c ⟨x.canon.keyB.toArray⟩ (by rw [ba_size]; have := keyB_len x.canon (by rw [canon_keyW]; omega); rw [canon_keyW] at this; omega) (all12 c35)
  rw [dk] at c27
  have c11 := all11 x.canon x.canon
  rw [same_refl] at c11
  have c15 := Equal_c (Compare_c (all12 c35) all34) x y
  have heq : (x.canon.cmp y.canon == 0) = (x.canon.keyB == y.canon.keyB) := by
    by_cases h : x.canon = y.canon
    · rw [h, lwS.refl]; simp
    · have h1 : (x.canon.cmp y.canon == 0) = false := by simp; exact fun e => h (lwS.eq _ _ e)
      have h2 : (x.canon.keyB == y.canon.keyB) = false := by
        simp
        exact fun e => h (keyB_inj ((canon_sm _).2 hmp) ((canon_sm _).2 hmq) (by rw [canon_size]; omega) (by rw [canon_size]; omega) (canon_idem x) (canon_idem y) e)
      rw [h1, h2]
  rw [heq] at c15
  exact keys_c p q x y x.canon y.canon x.canon.keyB y.canon.keyB (known_all c35 c55) cp cq (key_c x (all12 c35 x) (by rw [canon_keyW]; omega)) (key_c y (all12 c35 y) (by rw [canon_keyW]; omega)) c27 c13 (keyM_all x.canon (by rw [canon_keyW]; omega)) c11 c15
end Go.Proofs.Ytegcmciglakicaa
namespace Go.Proofs.Ytegcmciglakicaa
open Go.RowKit Go.Exe
set_option linter.unusedVariables false
set_option linter.unusedSimpArgs false
set_option maxHeartbeats 1000000
set_option maxRecDepth 100000
attribute [local irreducible] W AX Run RunD AStep AOp AOpX AStB AStH AStG Fits PCall GCall PostG Post Stop

def strA (t : ByteArray) : List AV := [.flat (.string t)]
theorem same_zero : PCall Try.prog 11 [shT shp0, .g [fl (.string .empty), fl (.string .empty), fl (.slice none 0 0)]] (ft (.bool true)) := by
  have h := all11 shp0 shp0
  rw [same_refl] at h
  exact PCall.conv h (Al.cons TLe.rfl (Al.cons (TLe.g CLe.nil3) Al.nil)) TLe.rfl
theorem decodes_c (p : List Nat) (s : ByteArray) (at_ : Nat) (x xc : Shp) (ka : List UInt8) (hat : at_ < 65536) (hka : ka.length ≤ 10000) (c8 : PCall Try.prog 8 [] (ft (.bool true)))
    (cp : PCall Try.prog 9 [planT p] (shT x)) (c13a : PCall Try.prog 13 [shT x] (shT xc)) (c28a : PCall Try.prog 28 [shT xc] (ft (.string ⟨ka.toArray⟩)))
    (c12 : ∀ x : Shp, PCall Try.prog 12 [shT x] (shT x.canon)) (c13 : ∀ x : Shp, PCall Try.prog 13 [shT x] (shT x.canon)) :
    PCall Try.prog 7 [planT p, ft (.string s), ft (.int .u16 (at_ : Nat))] (ft (.bool true)) := by
  have f300 : (if (300 : Int) < (s.size : Int) then (300 : Int) else (s.size : Int)) = ((min s.size 300 : Nat) : Int) := by split <;> omega
  have f3 : (if (3 : Int) < (s.size : Int) then (3 : Int) else (s.size : Int)) = ((min s.size 3 : Nat) : Int) := by split <;> omega
  have f1 : (if (1 : Int) < (s.size : Int) then (1 : Int) else (s.size : Int)) = ((min s.size 1 : Nat) : Int) := by split <;> omega
  have g1 : IntKind.i64.wrap (at_ : Int) = (at_ : Int) := w64 (by omega) (by omega)
  have g2 : IntKind.i64.wrap ((ka.length : Int) + 1) = ((ka.length + 1 : Nat) : Int) := w64s _ (by omega)
  have g3 : Int.tmod (at_ : Int) ((ka.length + 1 : Nat) : Int) = ((at_ % (ka.length + 1) : Nat) : Int) := by rw [Int.tmod_eq_emod_of_nonneg (by omega)]; omega
  have hlt := Nat.mod_lt at_ (show 0 < ka.length + 1 by omega)
  generalize at_ % (ka.length + 1) = n at g3 hlt
  have g4 : n < ka.length → IntKind.i64.wrap ((n : Int) + 1) = ((n + 1 : Nat) : Int) := fun h => w64s _ (by omega)
  obtain ⟨s0, o0, ks0⟩ := x
  obtain ⟨s1, o1, ks1⟩ := xc
  simp only [shT_mk, planT] at *
  refine PCall.intro (nt := 137) (rs := [.tmp 6]) Try.func7 rfl ⟨by kernel_rfl, by kernel_rfl, by kernel_rfl⟩ (by simp) ?_
  rintro ⟨P, w0, ok0, may, np, pblk⟩ rfl rfl
  repeat' (first
    | ((show W _ _ _ _); first | refine W.stop (id := 6) ?_ | (refine W.seq fun K hK => ?_) | refine W.block ?_ | (refine W.reg rfl ?_; simp only [go_sem, reduceCtorEq, ba_size, g1, g2, g3, f300, f3]) | (refine W.regD Try_mo rfl rfl ?_; simp only [go_sem, reduceCtorEq, ba_size, g1, g2, g3, f300, f3]) | (refine W.skip ?_; simp only [go_sem]) | (refine W.exit ?_; simp only [go_sem]) | (refine W.ret (Post.ret ?_); simp only [go_sem, reduceCtorEq, ba_size, g1, g2, g3, f300, f3]) | refine W.condT rfl ?_ | refine W.condF rfl ?_ | refine W.cond rfl (fun h => ?_) (fun h => ?_))
    | ((show AX _ _ _ _ _); first | (refine AX.pcall rfl rfl (by simp only [go_sem, unim_im]; rfl) (by solve_by_elim) rfl rfl ?_; simp only [go_sem, reduceCtorEq, ba_size, g1, g2, g3, f300, f3]) | (refine AX.pcallF rfl rfl (by simp only [go_sem, unim_im]; rfl) (by simp only [go_sem, unim_im]; rfl) (by solve_by_elim) rfl rfl ?_; simp only [go_sem, reduceCtorEq, ba_size, g1, g2, g3, f300, f3]))
    | ((show indepK _ _ _ _ = true ∧ _); refine And.intro (by kernel_rfl) ?_)
    | ((show _ ∧ _); refine And.intro (by first | omega | assumption | (simp only [go_sem]; omega) | (simp; omega) | (simp; done)) ?_)
    | (refine hK _ ?_; clear hK K)
    | (clear hK K; refine hK _ ?_; clear hK K)
    | (clear hK K; clear hK K; refine hK _ ?_; clear hK K)
    | (clear hK K; clear hK K; clear hK K; refine hK _ ?_; clear hK K)
    | fail)
  refine Stop.out ?_
  obtain ⟨A, hA⟩ : ∃ A, A = s.extract 0 (min s.size 300) := ⟨_, rfl⟩
  obtain ⟨B, hB⟩ : ∃ B, B = (⟨ka.toArray⟩ : ByteArray).extract 0 n := ⟨_, rfl⟩
  obtain ⟨D, hD⟩ : ∃ D, D = s.extract 0 (min s.size 3) := ⟨_, rfl⟩
  obtain ⟨F, hF⟩ : ∃ F, F = (⟨ka.toArray⟩ : ByteArray).extract n ka.length := ⟨_, rfl⟩
  have zA : A.size ≤ 300 := by rw [hA, ByteArray.size_extract]; omega
  have zB : B.size ≤ 10000 := by rw [hB, ByteArray.size_extract, ba_size]; omega
  have zD : D.size ≤ 3 := by rw [hD, ByteArray.size_extract]; omega
  have zF : F.size ≤ 10000 := by rw [hF, ByteArray.size_extract, ba_size]; omega
  refine W.fits (s' := { t := [(1, ft (.string s)), (6, ft (.bool false)), (7, ft (.string ⟨ka.toArray⟩)), (8, ft (.int .i64 (n : Nat))), (9, .c (.ref 0))], h := [(0, .row 9 (imR ([A, B, B ++ D ++ F].map strA)))], nx := 1, ex := [], nt := 137 }) (Fits.fit [(36, 0)] [1, 6, 7, 8, 9] 1 rfl rfl ?_) ?_
  · simp only [go_sem, ← hA, ← hB, ← hD, ← hF, List.map_cons, List.map_nil, strA, imR_cons, imR_nil, imL]
    exact Fits.rfl
  clear hA hF
  refine W.reg rfl ?_
  simp only [go_sem, reduceCtorEq, ba_size]
  refine hK _ ?_
  clear hK K
  have main : ∀ L : List ByteArray, (∀ t ∈ L, t.size ≤ 30000) → L.length ≤ 10 → ∀ s1, Fits ⟨Try.prog, w0, ok0, may, 0, pblk⟩ s1 { t := [(6, ft (.bool false)), (9, .c (.ref 0))], h := [(0, .row 9 (imR (L.map strA)))], nx := 1, ex := [], nt := 137 } → K s1 := by
    intro L hL hLl s1 hf
    refine hK _ (W.fits hf ?_); clear hK K
    clear cp c13a c28a c8
    repeat' (first
      | ((show W _ _ _ _); first | (refine W.seq fun K hK => ?_) | refine W.block ?_ | (refine W.reg rfl ?_; simp only [go_sem, reduceCtorEq]) | (refine W.regD Try_mo rfl rfl ?_; simp only [go_sem, reduceCtorEq]) | (refine W.skip ?_; simp only [go_sem]) | (refine W.exit ?_; simp only [go_sem]) | (refine W.ret (Post.ret ?_); simp only [go_sem, reduceCtorEq]) | refine W.condT rfl ?_ | refine W.condF rfl ?_ | refine W.cond rfl (fun h => ?_) (fun h => ?_))
      | ((show AX _ _ _ _ _); first | (refine AX.pcall rfl rfl (by simp only [go_sem, unim_im]; rfl) (by solve_by_elim) rfl rfl ?_; simp only [go_sem, reduceCtorEq]) | (refine AX.pcallF rfl rfl (by simp only [go_sem, unim_im]; rfl) (by simp only [go_sem, unim_im]; rfl) (by solve_by_elim) rfl rfl ?_; simp only [go_sem, reduceCtorEq]))
      | ((show indepK _ _ _ _ = true ∧ _); refine And.intro (by kernel_rfl) ?_)
      | ((show _ ∧ _); refine And.intro (by first | omega | assumption | (simp only [go_sem]; omega) | (simp; omega) | (simp; done)) ?_)
      | (refine hK _ ?_; clear hK K)
      | (clear hK K; refine hK _ ?_; clear hK K)
      | (clear hK K; clear hK K; refine hK _ ?_; clear hK K)
      | (clear hK K; clear hK K; clear hK K; refine hK _ ?_; clear hK K)
      | fail)
    refine W.loopF (T := fun i : Nat => { t := [(6, ft (.bool false)), (9, .c (.ref 0)), (10, ft (.int .i64 (i : Nat)))], h := [(0, .row 9 (imR (L.map strA)))], nx := 1, ex := [], nt := 137 })
      (Inv := fun i => i ≤ L.length) (μ := fun i => L.length - i) (x0 := 0) (Fits.fit [(0, 0)] [6, 9, 10] 1 rfl rfl (by simp only [go_sem]; exact Fits.rfl)) (Nat.zero_le _) ?_
    intro i hi KL hKL
    by_cases hlt : i < L.length
    rotate_left
    · have e1 : decide ((i : Int) < (L.length : Int)) = false := by simp; omega
      clear hKL
      repeat' (first
        | ((show W _ _ _ _); first | (refine W.seq fun K hK => ?_) | refine W.block ?_ | (refine W.reg rfl ?_; simp only [go_sem, reduceCtorEq, imR_len, List.length_map, e1]) | (refine W.regD Try_mo rfl rfl ?_; simp only [go_sem, reduceCtorEq, imR_len, List.length_map, e1]) | (refine W.skip ?_; simp only [go_sem]) | (refine W.exit ?_; simp only [go_sem]) | (refine W.ret (Post.ret ?_); simp only [go_sem, reduceCtorEq, imR_len, List.length_map, e1]) | refine W.condT rfl ?_ | refine W.condF rfl ?_ | refine W.cond rfl (fun h => ?_) (fun h => ?_))
        | ((show AX _ _ _ _ _); first | (refine AX.pcall rfl rfl (by simp only [go_sem, unim_im]; rfl) (by solve_by_elim) rfl rfl ?_; simp only [go_sem, reduceCtorEq, imR_len, List.length_map, e1]) | (refine AX.pcallF rfl rfl (by simp only [go_sem, unim_im]; rfl) (by simp only [go_sem, unim_im]; rfl) (by solve_by_elim) rfl rfl ?_; simp only [go_sem, reduceCtorEq, imR_len, List.length_map, e1]))
        | ((show indepK _ _ _ _ = true ∧ _); refine And.intro (by kernel_rfl) ?_)
        | ((show _ ∧ _); refine And.intro (by first | omega | assumption | (simp only [go_sem]; omega) | (simp; omega) | (simp; done)) ?_)
        | (refine hK _ ?_; clear hK K)
        | (clear hK K; refine hK _ ?_; clear hK K)
        | (clear hK K; clear hK K; refine hK _ ?_; clear hK K)
        | (clear hK K; clear hK K; clear hK K; refine hK _ ?_; clear hK K)
        | fail)
    have e1 : decide ((i : Int) < (L.length : Int)) = true := by simp; omega
    obtain ⟨t, hx, hm, hd⟩ := drop_at hlt
    have e0 : decide (i < L.length) = true := by simp; omega
    have ht := hL t hm
    have hw := w64s i (by omega)
    have c27 := Decode_c t (by omega) c12
    have hn := newReader_r t
    have hc := decode_all t (by omega) 4096 0 0 0 (Nat.zero_le _) (Nat.zero_le _) (Nat.le_refl _)
    have hok := decF_ok t 4096 0 0 0 (Nat.zero_le _) (Nat.zero_le _)
    have hkw := decF_kw t 4096 0 0 0 (Nat.zero_le _) (Nat.zero_le _)
    have hz := same_zero
    unfold decR at c27
    generalize decF t 4096 0 0 0 = r at *
    obtain ⟨y, k, a, e, err⟩ := r
    simp only at hok hkw c27
    have hl := left_r t a e (by omega) (by omega)
    simp only [rdB, dmT, dT, shp0, shT, Shp.av, List.map, avs, show ((0 : Nat) : Int) = 0 from rfl, show ((4096 - 0 : Nat) : Int) = 4096 from rfl] at hc c27 hl hn hz
    clear c12
    have e3 : ((0 : Int) == 0) = true := rfl
    by_cases h1 : err = 0
    rotate_left
    · have f1 : (err == 0) = false := by simp [h1]
      have f2 : (err != 0) = true := by simp [h1]
      have f3 : (err != err) = false := by simp
      rw [if_pos h1] at c27
      obtain ⟨s', o', ks'⟩ := y
      simp only [Shp.av, List.map, shp0, avs] at hc c27
      clear hl hkw c13
      repeat' (first
        | ((show W _ _ _ _); first | (refine W.seq fun K hK => ?_) | refine W.block ?_ | (refine W.reg rfl ?_; simp only [go_sem, reduceCtorEq, imR_len, List.length_map, List.getElem?_map, hx, strA, imL, e0, e1, hw]) | (refine W.regD Try_mo rfl rfl ?_; simp only [go_sem, reduceCtorEq, imR_len, List.length_map, List.getElem?_map, hx, strA, imL, e0, e1, hw]) | (refine W.skip ?_; simp only [go_sem]) | (refine W.exit ?_; simp only [go_sem]) | (refine W.ret (Post.ret ?_); simp only [go_sem, reduceCtorEq, imR_len, List.length_map, List.getElem?_map, hx, strA, imL, e0, e1, hw]) | refine W.condT rfl ?_ | refine W.condF rfl ?_ | refine W.cond rfl (fun h => ?_) (fun h => ?_))
        | ((show AX _ _ _ _ _); first | (refine AX.pcall rfl rfl (by simp only [go_sem, unim_im]; rfl) (by solve_by_elim) rfl rfl ?_; simp only [go_sem, reduceCtorEq, imR_len, List.length_map, List.getElem?_map, hx, strA, imL, e0, e1, hw]) | (refine AX.pcallF rfl rfl (by simp only [go_sem, unim_im]; rfl) (by simp only [go_sem, unim_im]; rfl) (by solve_by_elim) rfl rfl ?_; simp only [go_sem, reduceCtorEq, imR_len, List.length_map, List.getElem?_map, hx, strA, imL, e0, e1, hw]))
        | ((show indepK _ _ _ _ = true ∧ _); refine And.intro (by kernel_rfl) ?_)
        | ((show _ ∧ _); refine And.intro (by first | omega | assumption | (simp only [go_sem]; omega) | (simp; omega) | (simp; done)) ?_)
        | (refine hK _ ?_; clear hK K)
        | (clear hK K; refine hK _ ?_; clear hK K)
        | (clear hK K; clear hK K; refine hK _ ?_; clear hK K)
        | (clear hK K; clear hK K; clear hK K; refine hK _ ?_; clear hK K)
        | fail)
      refine AX.gcall [] rfl rfl (hn) (by simp only [go_sem, reduceCtorEq]) (by simp only [go_sem, reduceCtorEq]) rfl rfl (by simp only [go_sem, Obj.owns]) rfl (by simp only [go_sem, Obj.owns]) rfl rfl ?_
      simp only [go_sem, reduceCtorEq]
      repeat' (first
        | ((show W _ _ _ _); first | (refine W.seq fun K hK => ?_) | refine W.block ?_ | (refine W.reg rfl ?_; simp only [go_sem, reduceCtorEq, imR_len, List.length_map, List.getElem?_map, hx, strA, imL, e0, e1, hw]) | (refine W.regD Try_mo rfl rfl ?_; simp only [go_sem, reduceCtorEq, imR_len, List.length_map, List.getElem?_map, hx, strA, imL, e0, e1, hw]) | (refine W.skip ?_; simp only [go_sem]) | (refine W.exit ?_; simp only [go_sem]) | (refine W.ret (Post.ret ?_); simp only [go_sem, reduceCtorEq, imR_len, List.length_map, List.getElem?_map, hx, strA, imL, e0, e1, hw]) | refine W.condT rfl ?_ | refine W.condF rfl ?_ | refine W.cond rfl (fun h => ?_) (fun h => ?_))
        | ((show AX _ _ _ _ _); first | (refine AX.pcall rfl rfl (by simp only [go_sem, unim_im]; rfl) (by solve_by_elim) rfl rfl ?_; simp only [go_sem, reduceCtorEq, imR_len, List.length_map, List.getElem?_map, hx, strA, imL, e0, e1, hw]) | (refine AX.pcallF rfl rfl (by simp only [go_sem, unim_im]; rfl) (by simp only [go_sem, unim_im]; rfl) (by solve_by_elim) rfl rfl ?_; simp only [go_sem, reduceCtorEq, imR_len, List.length_map, List.getElem?_map, hx, strA, imL, e0, e1, hw]))
        | ((show indepK _ _ _ _ = true ∧ _); refine And.intro (by kernel_rfl) ?_)
        | ((show _ ∧ _); refine And.intro (by first | omega | assumption | (simp only [go_sem]; omega) | (simp; omega) | (simp; done)) ?_)
        | (refine hK _ ?_; clear hK K)
        | (clear hK K; refine hK _ ?_; clear hK K)
        | (clear hK K; clear hK K; refine hK _ ?_; clear hK K)
        | (clear hK K; clear hK K; clear hK K; refine hK _ ?_; clear hK K)
        | fail)
      refine AX.gcall [20] rfl rfl (hc) (by simp only [go_sem, reduceCtorEq]) (by simp only [go_sem, reduceCtorEq]) rfl rfl (by simp only [go_sem, Obj.owns]) rfl (by simp only [go_sem, Obj.owns]) rfl rfl ?_
      simp only [go_sem, reduceCtorEq]
      repeat' (first
        | ((show W _ _ _ _); first | (refine W.seq fun K hK => ?_) | refine W.block ?_ | (refine W.reg rfl ?_; simp only [go_sem, reduceCtorEq, imR_len, List.length_map, List.getElem?_map, hx, strA, imL, e0, e1, hw, f1, f2, f3]) | (refine W.regD Try_mo rfl rfl ?_; simp only [go_sem, reduceCtorEq, imR_len, List.length_map, List.getElem?_map, hx, strA, imL, e0, e1, hw, f1, f2, f3]) | (refine W.skip ?_; simp only [go_sem]) | (refine W.exit ?_; simp only [go_sem]) | (refine W.ret (Post.ret ?_); simp only [go_sem, reduceCtorEq, imR_len, List.length_map, List.getElem?_map, hx, strA, imL, e0, e1, hw, f1, f2, f3]) | refine W.condT rfl ?_ | refine W.condF rfl ?_ | refine W.cond rfl (fun h => ?_) (fun h => ?_))
        | ((show AX _ _ _ _ _); first | (refine AX.pcall rfl rfl (by simp only [go_sem, unim_im]; rfl) (by solve_by_elim) rfl rfl ?_; simp only [go_sem, reduceCtorEq, imR_len, List.length_map, List.getElem?_map, hx, strA, imL, e0, e1, hw, f1, f2, f3]) | (refine AX.pcallF rfl rfl (by simp only [go_sem, unim_im]; rfl) (by simp only [go_sem, unim_im]; rfl) (by solve_by_elim) rfl rfl ?_; simp only [go_sem, reduceCtorEq, imR_len, List.length_map, List.getElem?_map, hx, strA, imL, e0, e1, hw, f1, f2, f3]))
        | ((show indepK _ _ _ _ = true ∧ _); refine And.intro (by kernel_rfl) ?_)
        | ((show _ ∧ _); refine And.intro (by first | omega | assumption | (simp only [go_sem]; omega) | (simp; omega) | (simp; done)) ?_)
        | (refine hK _ ?_; clear hK K)
        | (clear hK K; refine hK _ ?_; clear hK K)
        | (clear hK K; clear hK K; refine hK _ ?_; clear hK K)
        | (clear hK K; clear hK K; clear hK K; refine hK _ ?_; clear hK K)
        | fail)
      exact hKL.to (i + 1) (by omega) (by omega) (Fits.fit [(0, 0)] [6, 9, 10] 1 rfl rfl (by simp only [go_sem]; exact Fits.rfl))
    rw [if_neg (by simpa using h1)] at c27
    subst h1
    have ckw : y.canon.keyW ≤ 140737488355328 := by rw [canon_keyW]; have := hkw rfl; have := hok.2.2 rfl; omega
    have c28 := keyM_all y.canon ckw
    have c13y := c13 y
    have c11 := all11 y y
    rw [same_refl] at c11
    clear hkw c13
    by_cases h2 : a < t.size
    · have f1 : decide ((t.size : Int) - a > 0) = true := by simp; omega
      rw [if_pos h2] at c27
      generalize y.canon = yc at *
      obtain ⟨s', o', ks'⟩ := y
      obtain ⟨s2, o2, ks2⟩ := yc
      simp only [Shp.av, List.map, shp0, avs, shT_mk] at hc c27 c28 c13y c11
      have f3 : ((3 : Int) != 3) = false := rfl
      have f4 : ((3 : Int) == 0) = false := rfl
      have f5 : ((3 : Int) != 0) = true := rfl
      repeat' (first
        | ((show W _ _ _ _); first | (refine W.seq fun K hK => ?_) | refine W.block ?_ | (refine W.reg rfl ?_; simp only [go_sem, reduceCtorEq, imR_len, List.length_map, List.getElem?_map, hx, strA, imL, e0, e1, hw]) | (refine W.regD Try_mo rfl rfl ?_; simp only [go_sem, reduceCtorEq, imR_len, List.length_map, List.getElem?_map, hx, strA, imL, e0, e1, hw]) | (refine W.skip ?_; simp only [go_sem]) | (refine W.exit ?_; simp only [go_sem]) | (refine W.ret (Post.ret ?_); simp only [go_sem, reduceCtorEq, imR_len, List.length_map, List.getElem?_map, hx, strA, imL, e0, e1, hw]) | refine W.condT rfl ?_ | refine W.condF rfl ?_ | refine W.cond rfl (fun h => ?_) (fun h => ?_))
        | ((show AX _ _ _ _ _); first | (refine AX.pcall rfl rfl (by simp only [go_sem, unim_im]; rfl) (by solve_by_elim) rfl rfl ?_; simp only [go_sem, reduceCtorEq, imR_len, List.length_map, List.getElem?_map, hx, strA, imL, e0, e1, hw]) | (refine AX.pcallF rfl rfl (by simp only [go_sem, unim_im]; rfl) (by simp only [go_sem, unim_im]; rfl) (by solve_by_elim) rfl rfl ?_; simp only [go_sem, reduceCtorEq, imR_len, List.length_map, List.getElem?_map, hx, strA, imL, e0, e1, hw]))
        | ((show indepK _ _ _ _ = true ∧ _); refine And.intro (by kernel_rfl) ?_)
        | ((show _ ∧ _); refine And.intro (by first | omega | assumption | (simp only [go_sem]; omega) | (simp; omega) | (simp; done)) ?_)
        | (refine hK _ ?_; clear hK K)
        | (clear hK K; refine hK _ ?_; clear hK K)
        | (clear hK K; clear hK K; refine hK _ ?_; clear hK K)
        | (clear hK K; clear hK K; clear hK K; refine hK _ ?_; clear hK K)
        | fail)
      refine AX.gcall [] rfl rfl (hn) (by simp only [go_sem, reduceCtorEq]) (by simp only [go_sem, reduceCtorEq]) rfl rfl (by simp only [go_sem, Obj.owns]) rfl (by simp only [go_sem, Obj.owns]) rfl rfl ?_
      simp only [go_sem, reduceCtorEq]
      repeat' (first
        | ((show W _ _ _ _); first | (refine W.seq fun K hK => ?_) | refine W.block ?_ | (refine W.reg rfl ?_; simp only [go_sem, reduceCtorEq, imR_len, List.length_map, List.getElem?_map, hx, strA, imL, e0, e1, hw]) | (refine W.regD Try_mo rfl rfl ?_; simp only [go_sem, reduceCtorEq, imR_len, List.length_map, List.getElem?_map, hx, strA, imL, e0, e1, hw]) | (refine W.skip ?_; simp only [go_sem]) | (refine W.exit ?_; simp only [go_sem]) | (refine W.ret (Post.ret ?_); simp only [go_sem, reduceCtorEq, imR_len, List.length_map, List.getElem?_map, hx, strA, imL, e0, e1, hw]) | refine W.condT rfl ?_ | refine W.condF rfl ?_ | refine W.cond rfl (fun h => ?_) (fun h => ?_))
        | ((show AX _ _ _ _ _); first | (refine AX.pcall rfl rfl (by simp only [go_sem, unim_im]; rfl) (by solve_by_elim) rfl rfl ?_; simp only [go_sem, reduceCtorEq, imR_len, List.length_map, List.getElem?_map, hx, strA, imL, e0, e1, hw]) | (refine AX.pcallF rfl rfl (by simp only [go_sem, unim_im]; rfl) (by simp only [go_sem, unim_im]; rfl) (by solve_by_elim) rfl rfl ?_; simp only [go_sem, reduceCtorEq, imR_len, List.length_map, List.getElem?_map, hx, strA, imL, e0, e1, hw]))
        | ((show indepK _ _ _ _ = true ∧ _); refine And.intro (by kernel_rfl) ?_)
        | ((show _ ∧ _); refine And.intro (by first | omega | assumption | (simp only [go_sem]; omega) | (simp; omega) | (simp; done)) ?_)
        | (refine hK _ ?_; clear hK K)
        | (clear hK K; refine hK _ ?_; clear hK K)
        | (clear hK K; clear hK K; refine hK _ ?_; clear hK K)
        | (clear hK K; clear hK K; clear hK K; refine hK _ ?_; clear hK K)
        | fail)
      refine AX.gcall [20] rfl rfl (hc) (by simp only [go_sem, reduceCtorEq]) (by simp only [go_sem, reduceCtorEq]) rfl rfl (by simp only [go_sem, Obj.owns]) rfl (by simp only [go_sem, Obj.owns]) rfl rfl ?_
      simp only [go_sem, reduceCtorEq]
      repeat' (first
        | ((show W _ _ _ _); first | (refine W.seq fun K hK => ?_) | refine W.block ?_ | (refine W.reg rfl ?_; simp only [go_sem, reduceCtorEq, imR_len, List.length_map, List.getElem?_map, hx, strA, imL, e0, e1, hw, e3]) | (refine W.regD Try_mo rfl rfl ?_; simp only [go_sem, reduceCtorEq, imR_len, List.length_map, List.getElem?_map, hx, strA, imL, e0, e1, hw, e3]) | (refine W.skip ?_; simp only [go_sem]) | (refine W.exit ?_; simp only [go_sem]) | (refine W.ret (Post.ret ?_); simp only [go_sem, reduceCtorEq, imR_len, List.length_map, List.getElem?_map, hx, strA, imL, e0, e1, hw, e3]) | refine W.condT rfl ?_ | refine W.condF rfl ?_ | refine W.cond rfl (fun h => ?_) (fun h => ?_))
        | ((show AX _ _ _ _ _); first | (refine AX.pcall rfl rfl (by simp only [go_sem, unim_im]; rfl) (by solve_by_elim) rfl rfl ?_; simp only [go_sem, reduceCtorEq, imR_len, List.length_map, List.getElem?_map, hx, strA, imL, e0, e1, hw, e3]) | (refine AX.pcallF rfl rfl (by simp only [go_sem, unim_im]; rfl) (by simp only [go_sem, unim_im]; rfl) (by solve_by_elim) rfl rfl ?_; simp only [go_sem, reduceCtorEq, imR_len, List.length_map, List.getElem?_map, hx, strA, imL, e0, e1, hw, e3]))
        | ((show indepK _ _ _ _ = true ∧ _); refine And.intro (by kernel_rfl) ?_)
        | ((show _ ∧ _); refine And.intro (by first | omega | assumption | (simp only [go_sem]; omega) | (simp; omega) | (simp; done)) ?_)
        | (refine hK _ ?_; clear hK K)
        | (clear hK K; refine hK _ ?_; clear hK K)
        | (clear hK K; clear hK K; refine hK _ ?_; clear hK K)
        | (clear hK K; clear hK K; clear hK K; refine hK _ ?_; clear hK K)
        | fail)
      refine AX.gcall [20] rfl rfl (hl) (by simp only [go_sem, reduceCtorEq, f1]) (by simp only [go_sem, reduceCtorEq, f1]) rfl rfl (by simp only [go_sem, Obj.owns]) rfl (by simp only [go_sem, Obj.owns]) rfl rfl ?_
      simp only [go_sem, reduceCtorEq, f1]
      repeat' (first
        | ((show W _ _ _ _); first | (refine W.seq fun K hK => ?_) | refine W.block ?_ | (refine W.reg rfl ?_; simp only [go_sem, reduceCtorEq, imR_len, List.length_map, List.getElem?_map, hx, strA, imL, e0, e1, hw, f1, f3, f4, f5]) | (refine W.regD Try_mo rfl rfl ?_; simp only [go_sem, reduceCtorEq, imR_len, List.length_map, List.getElem?_map, hx, strA, imL, e0, e1, hw, f1, f3, f4, f5]) | (refine W.skip ?_; simp only [go_sem]) | (refine W.exit ?_; simp only [go_sem]) | (refine W.ret (Post.ret ?_); simp only [go_sem, reduceCtorEq, imR_len, List.length_map, List.getElem?_map, hx, strA, imL, e0, e1, hw, f1, f3, f4, f5]) | refine W.condT rfl ?_ | refine W.condF rfl ?_ | refine W.cond rfl (fun h => ?_) (fun h => ?_))
        | ((show AX _ _ _ _ _); first | (refine AX.pcall rfl rfl (by simp only [go_sem, unim_im]; rfl) (by solve_by_elim) rfl rfl ?_; simp only [go_sem, reduceCtorEq, imR_len, List.length_map, List.getElem?_map, hx, strA, imL, e0, e1, hw, f1, f3, f4, f5]) | (refine AX.pcallF rfl rfl (by simp only [go_sem, unim_im]; rfl) (by simp only [go_sem, unim_im]; rfl) (by solve_by_elim) rfl rfl ?_; simp only [go_sem, reduceCtorEq, imR_len, List.length_map, List.getElem?_map, hx, strA, imL, e0, e1, hw, f1, f3, f4, f5]))
        | ((show indepK _ _ _ _ = true ∧ _); refine And.intro (by kernel_rfl) ?_)
        | ((show _ ∧ _); refine And.intro (by first | omega | assumption | (simp only [go_sem]; omega) | (simp; omega) | (simp; done)) ?_)
        | (refine hK _ ?_; clear hK K)
        | (clear hK K; refine hK _ ?_; clear hK K)
        | (clear hK K; clear hK K; refine hK _ ?_; clear hK K)
        | (clear hK K; clear hK K; clear hK K; refine hK _ ?_; clear hK K)
        | fail)
      exact hKL.to (i + 1) (by omega) (by omega) (Fits.fit [(0, 0)] [6, 9, 10] 1 rfl rfl (by simp only [go_sem]; exact Fits.rfl))
    have f1 : decide ((t.size : Int) - a > 0) = false := by simp; omega
    rw [if_neg h2] at c27
    by_cases h3 : y.canon.keyB = t.toList
    · have f2 : (y.canon.keyB == t.toList) = true := by simp [h3]
      rw [if_pos h3] at c27
      generalize y.canon.keyB = kb at *
      generalize y.canon = yc at *
      obtain ⟨s', o', ks'⟩ := y
      obtain ⟨s2, o2, ks2⟩ := yc
      simp only [Shp.av, List.map, shp0, avs, shT_mk] at hc c27 c28 c13y c11
      have f3 : ((0 : Int) != 0) = false := rfl
      repeat' (first
        | ((show W _ _ _ _); first | (refine W.seq fun K hK => ?_) | refine W.block ?_ | (refine W.reg rfl ?_; simp only [go_sem, reduceCtorEq, imR_len, List.length_map, List.getElem?_map, hx, strA, imL, e0, e1, hw]) | (refine W.regD Try_mo rfl rfl ?_; simp only [go_sem, reduceCtorEq, imR_len, List.length_map, List.getElem?_map, hx, strA, imL, e0, e1, hw]) | (refine W.skip ?_; simp only [go_sem]) | (refine W.exit ?_; simp only [go_sem]) | (refine W.ret (Post.ret ?_); simp only [go_sem, reduceCtorEq, imR_len, List.length_map, List.getElem?_map, hx, strA, imL, e0, e1, hw]) | refine W.condT rfl ?_ | refine W.condF rfl ?_ | refine W.cond rfl (fun h => ?_) (fun h => ?_))
        | ((show AX _ _ _ _ _); first | (refine AX.pcall rfl rfl (by simp only [go_sem, unim_im]; rfl) (by solve_by_elim) rfl rfl ?_; simp only [go_sem, reduceCtorEq, imR_len, List.length_map, List.getElem?_map, hx, strA, imL, e0, e1, hw]) | (refine AX.pcallF rfl rfl (by simp only [go_sem, unim_im]; rfl) (by simp only [go_sem, unim_im]; rfl) (by solve_by_elim) rfl rfl ?_; simp only [go_sem, reduceCtorEq, imR_len, List.length_map, List.getElem?_map, hx, strA, imL, e0, e1, hw]))
        | ((show indepK _ _ _ _ = true ∧ _); refine And.intro (by kernel_rfl) ?_)
        | ((show _ ∧ _); refine And.intro (by first | omega | assumption | (simp only [go_sem]; omega) | (simp; omega) | (simp; done)) ?_)
        | (refine hK _ ?_; clear hK K)
        | (clear hK K; refine hK _ ?_; clear hK K)
        | (clear hK K; clear hK K; refine hK _ ?_; clear hK K)
        | (clear hK K; clear hK K; clear hK K; refine hK _ ?_; clear hK K)
        | fail)
      refine AX.gcall [] rfl rfl (hn) (by simp only [go_sem, reduceCtorEq]) (by simp only [go_sem, reduceCtorEq]) rfl rfl (by simp only [go_sem, Obj.owns]) rfl (by simp only [go_sem, Obj.owns]) rfl rfl ?_
      simp only [go_sem, reduceCtorEq]
      repeat' (first
        | ((show W _ _ _ _); first | (refine W.seq fun K hK => ?_) | refine W.block ?_ | (refine W.reg rfl ?_; simp only [go_sem, reduceCtorEq, imR_len, List.length_map, List.getElem?_map, hx, strA, imL, e0, e1, hw]) | (refine W.regD Try_mo rfl rfl ?_; simp only [go_sem, reduceCtorEq, imR_len, List.length_map, List.getElem?_map, hx, strA, imL, e0, e1, hw]) | (refine W.skip ?_; simp only [go_sem]) | (refine W.exit ?_; simp only [go_sem]) | (refine W.ret (Post.ret ?_); simp only [go_sem, reduceCtorEq, imR_len, List.length_map, List.getElem?_map, hx, strA, imL, e0, e1, hw]) | refine W.condT rfl ?_ | refine W.condF rfl ?_ | refine W.cond rfl (fun h => ?_) (fun h => ?_))
        | ((show AX _ _ _ _ _); first | (refine AX.pcall rfl rfl (by simp only [go_sem, unim_im]; rfl) (by solve_by_elim) rfl rfl ?_; simp only [go_sem, reduceCtorEq, imR_len, List.length_map, List.getElem?_map, hx, strA, imL, e0, e1, hw]) | (refine AX.pcallF rfl rfl (by simp only [go_sem, unim_im]; rfl) (by simp only [go_sem, unim_im]; rfl) (by solve_by_elim) rfl rfl ?_; simp only [go_sem, reduceCtorEq, imR_len, List.length_map, List.getElem?_map, hx, strA, imL, e0, e1, hw]))
        | ((show indepK _ _ _ _ = true ∧ _); refine And.intro (by kernel_rfl) ?_)
        | ((show _ ∧ _); refine And.intro (by first | omega | assumption | (simp only [go_sem]; omega) | (simp; omega) | (simp; done)) ?_)
        | (refine hK _ ?_; clear hK K)
        | (clear hK K; refine hK _ ?_; clear hK K)
        | (clear hK K; clear hK K; refine hK _ ?_; clear hK K)
        | (clear hK K; clear hK K; clear hK K; refine hK _ ?_; clear hK K)
        | fail)
      refine AX.gcall [20] rfl rfl (hc) (by simp only [go_sem, reduceCtorEq]) (by simp only [go_sem, reduceCtorEq]) rfl rfl (by simp only [go_sem, Obj.owns]) rfl (by simp only [go_sem, Obj.owns]) rfl rfl ?_
      simp only [go_sem, reduceCtorEq]
      repeat' (first
        | ((show W _ _ _ _); first | (refine W.seq fun K hK => ?_) | refine W.block ?_ | (refine W.reg rfl ?_; simp only [go_sem, reduceCtorEq, imR_len, List.length_map, List.getElem?_map, hx, strA, imL, e0, e1, hw, e3]) | (refine W.regD Try_mo rfl rfl ?_; simp only [go_sem, reduceCtorEq, imR_len, List.length_map, List.getElem?_map, hx, strA, imL, e0, e1, hw, e3]) | (refine W.skip ?_; simp only [go_sem]) | (refine W.exit ?_; simp only [go_sem]) | (refine W.ret (Post.ret ?_); simp only [go_sem, reduceCtorEq, imR_len, List.length_map, List.getElem?_map, hx, strA, imL, e0, e1, hw, e3]) | refine W.condT rfl ?_ | refine W.condF rfl ?_ | refine W.cond rfl (fun h => ?_) (fun h => ?_))
        | ((show AX _ _ _ _ _); first | (refine AX.pcall rfl rfl (by simp only [go_sem, unim_im]; rfl) (by solve_by_elim) rfl rfl ?_; simp only [go_sem, reduceCtorEq, imR_len, List.length_map, List.getElem?_map, hx, strA, imL, e0, e1, hw, e3]) | (refine AX.pcallF rfl rfl (by simp only [go_sem, unim_im]; rfl) (by simp only [go_sem, unim_im]; rfl) (by solve_by_elim) rfl rfl ?_; simp only [go_sem, reduceCtorEq, imR_len, List.length_map, List.getElem?_map, hx, strA, imL, e0, e1, hw, e3]))
        | ((show indepK _ _ _ _ = true ∧ _); refine And.intro (by kernel_rfl) ?_)
        | ((show _ ∧ _); refine And.intro (by first | omega | assumption | (simp only [go_sem]; omega) | (simp; omega) | (simp; done)) ?_)
        | (refine hK _ ?_; clear hK K)
        | (clear hK K; refine hK _ ?_; clear hK K)
        | (clear hK K; clear hK K; refine hK _ ?_; clear hK K)
        | (clear hK K; clear hK K; clear hK K; refine hK _ ?_; clear hK K)
        | fail)
      refine AX.gcall [20] rfl rfl (hl) (by simp only [go_sem, reduceCtorEq, f1]) (by simp only [go_sem, reduceCtorEq, f1]) rfl rfl (by simp only [go_sem, Obj.owns]) rfl (by simp only [go_sem, Obj.owns]) rfl rfl ?_
      simp only [go_sem, reduceCtorEq, f1]
      repeat' (first
        | ((show W _ _ _ _); first | (refine W.seq fun K hK => ?_) | refine W.block ?_ | (refine W.reg rfl ?_; simp only [go_sem, reduceCtorEq, imR_len, List.length_map, List.getElem?_map, hx, strA, imL, e0, e1, hw, f1, f2, f3, e3, toList_arr]) | (refine W.regD Try_mo rfl rfl ?_; simp only [go_sem, reduceCtorEq, imR_len, List.length_map, List.getElem?_map, hx, strA, imL, e0, e1, hw, f1, f2, f3, e3, toList_arr]) | (refine W.skip ?_; simp only [go_sem]) | (refine W.exit ?_; simp only [go_sem]) | (refine W.ret (Post.ret ?_); simp only [go_sem, reduceCtorEq, imR_len, List.length_map, List.getElem?_map, hx, strA, imL, e0, e1, hw, f1, f2, f3, e3, toList_arr]) | refine W.condT rfl ?_ | refine W.condF rfl ?_ | refine W.cond rfl (fun h => ?_) (fun h => ?_))
        | ((show AX _ _ _ _ _); first | (refine AX.pcall rfl rfl (by simp only [go_sem, unim_im]; rfl) (by solve_by_elim) rfl rfl ?_; simp only [go_sem, reduceCtorEq, imR_len, List.length_map, List.getElem?_map, hx, strA, imL, e0, e1, hw, f1, f2, f3, e3, toList_arr]) | (refine AX.pcallF rfl rfl (by simp only [go_sem, unim_im]; rfl) (by simp only [go_sem, unim_im]; rfl) (by solve_by_elim) rfl rfl ?_; simp only [go_sem, reduceCtorEq, imR_len, List.length_map, List.getElem?_map, hx, strA, imL, e0, e1, hw, f1, f2, f3, e3, toList_arr]))
        | ((show indepK _ _ _ _ = true ∧ _); refine And.intro (by kernel_rfl) ?_)
        | ((show _ ∧ _); refine And.intro (by first | omega | assumption | (simp only [go_sem]; omega) | (simp; omega) | (simp; done)) ?_)
        | (refine hK _ ?_; clear hK K)
        | (clear hK K; refine hK _ ?_; clear hK K)
        | (clear hK K; clear hK K; refine hK _ ?_; clear hK K)
        | (clear hK K; clear hK K; clear hK K; refine hK _ ?_; clear hK K)
        | fail)
      exact hKL.to (i + 1) (by omega) (by omega) (Fits.fit [(0, 0)] [6, 9, 10] 1 rfl rfl (by simp only [go_sem]; exact Fits.rfl))
    · have f2 : (y.canon.keyB == t.toList) = false := by simp [h3]
      rw [if_neg h3] at c27
      generalize y.canon.keyB = kb at *
      generalize y.canon = yc at *
      obtain ⟨s', o', ks'⟩ := y
      obtain ⟨s2, o2, ks2⟩ := yc
      simp only [Shp.av, List.map, shp0, avs, shT_mk] at hc c27 c28 c13y c11
      have f3 : ((3 : Int) != 3) = false := rfl
      have f4 : ((3 : Int) == 0) = false := rfl
      have f5 : ((3 : Int) != 0) = true := rfl
      repeat' (first
        | ((show W _ _ _ _); first | (refine W.seq fun K hK => ?_) | refine W.block ?_ | (refine W.reg rfl ?_; simp only [go_sem, reduceCtorEq, imR_len, List.length_map, List.getElem?_map, hx, strA, imL, e0, e1, hw]) | (refine W.regD Try_mo rfl rfl ?_; simp only [go_sem, reduceCtorEq, imR_len, List.length_map, List.getElem?_map, hx, strA, imL, e0, e1, hw]) | (refine W.skip ?_; simp only [go_sem]) | (refine W.exit ?_; simp only [go_sem]) | (refine W.ret (Post.ret ?_); simp only [go_sem, reduceCtorEq, imR_len, List.length_map, List.getElem?_map, hx, strA, imL, e0, e1, hw]) | refine W.condT rfl ?_ | refine W.condF rfl ?_ | refine W.cond rfl (fun h => ?_) (fun h => ?_))
        | ((show AX _ _ _ _ _); first | (refine AX.pcall rfl rfl (by simp only [go_sem, unim_im]; rfl) (by solve_by_elim) rfl rfl ?_; simp only [go_sem, reduceCtorEq, imR_len, List.length_map, List.getElem?_map, hx, strA, imL, e0, e1, hw]) | (refine AX.pcallF rfl rfl (by simp only [go_sem, unim_im]; rfl) (by simp only [go_sem, unim_im]; rfl) (by solve_by_elim) rfl rfl ?_; simp only [go_sem, reduceCtorEq, imR_len, List.length_map, List.getElem?_map, hx, strA, imL, e0, e1, hw]))
        | ((show indepK _ _ _ _ = true ∧ _); refine And.intro (by kernel_rfl) ?_)
        | ((show _ ∧ _); refine And.intro (by first | omega | assumption | (simp only [go_sem]; omega) | (simp; omega) | (simp; done)) ?_)
        | (refine hK _ ?_; clear hK K)
        | (clear hK K; refine hK _ ?_; clear hK K)
        | (clear hK K; clear hK K; refine hK _ ?_; clear hK K)
        | (clear hK K; clear hK K; clear hK K; refine hK _ ?_; clear hK K)
        | fail)
      refine AX.gcall [] rfl rfl (hn) (by simp only [go_sem, reduceCtorEq]) (by simp only [go_sem, reduceCtorEq]) rfl rfl (by simp only [go_sem, Obj.owns]) rfl (by simp only [go_sem, Obj.owns]) rfl rfl ?_
      simp only [go_sem, reduceCtorEq]
      repeat' (first
        | ((show W _ _ _ _); first | (refine W.seq fun K hK => ?_) | refine W.block ?_ | (refine W.reg rfl ?_; simp only [go_sem, reduceCtorEq, imR_len, List.length_map, List.getElem?_map, hx, strA, imL, e0, e1, hw]) | (refine W.regD Try_mo rfl rfl ?_; simp only [go_sem, reduceCtorEq, imR_len, List.length_map, List.getElem?_map, hx, strA, imL, e0, e1, hw]) | (refine W.skip ?_; simp only [go_sem]) | (refine W.exit ?_; simp only [go_sem]) | (refine W.ret (Post.ret ?_); simp only [go_sem, reduceCtorEq, imR_len, List.length_map, List.getElem?_map, hx, strA, imL, e0, e1, hw]) | refine W.condT rfl ?_ | refine W.condF rfl ?_ | refine W.cond rfl (fun h => ?_) (fun h => ?_))
        | ((show AX _ _ _ _ _); first | (refine AX.pcall rfl rfl (by simp only [go_sem, unim_im]; rfl) (by solve_by_elim) rfl rfl ?_; simp only [go_sem, reduceCtorEq, imR_len, List.length_map, List.getElem?_map, hx, strA, imL, e0, e1, hw]) | (refine AX.pcallF rfl rfl (by simp only [go_sem, unim_im]; rfl) (by simp only [go_sem, unim_im]; rfl) (by solve_by_elim) rfl rfl ?_; simp only [go_sem, reduceCtorEq, imR_len, List.length_map, List.getElem?_map, hx, strA, imL, e0, e1, hw]))
        | ((show indepK _ _ _ _ = true ∧ _); refine And.intro (by kernel_rfl) ?_)
        | ((show _ ∧ _); refine And.intro (by first | omega | assumption | (simp only [go_sem]; omega) | (simp; omega) | (simp; done)) ?_)
        | (refine hK _ ?_; clear hK K)
        | (clear hK K; refine hK _ ?_; clear hK K)
        | (clear hK K; clear hK K; refine hK _ ?_; clear hK K)
        | (clear hK K; clear hK K; clear hK K; refine hK _ ?_; clear hK K)
        | fail)
      refine AX.gcall [20] rfl rfl (hc) (by simp only [go_sem, reduceCtorEq]) (by simp only [go_sem, reduceCtorEq]) rfl rfl (by simp only [go_sem, Obj.owns]) rfl (by simp only [go_sem, Obj.owns]) rfl rfl ?_
      simp only [go_sem, reduceCtorEq]
      repeat' (first
        | ((show W _ _ _ _); first | (refine W.seq fun K hK => ?_) | refine W.block ?_ | (refine W.reg rfl ?_; simp only [go_sem, reduceCtorEq, imR_len, List.length_map, List.getElem?_map, hx, strA, imL, e0, e1, hw, e3]) | (refine W.regD Try_mo rfl rfl ?_; simp only [go_sem, reduceCtorEq, imR_len, List.length_map, List.getElem?_map, hx, strA, imL, e0, e1, hw, e3]) | (refine W.skip ?_; simp only [go_sem]) | (refine W.exit ?_; simp only [go_sem]) | (refine W.ret (Post.ret ?_); simp only [go_sem, reduceCtorEq, imR_len, List.length_map, List.getElem?_map, hx, strA, imL, e0, e1, hw, e3]) | refine W.condT rfl ?_ | refine W.condF rfl ?_ | refine W.cond rfl (fun h => ?_) (fun h => ?_))
        | ((show AX _ _ _ _ _); first | (refine AX.pcall rfl rfl (by simp only [go_sem, unim_im]; rfl) (by solve_by_elim) rfl rfl ?_; simp only [go_sem, reduceCtorEq, imR_len, List.length_map, List.getElem?_map, hx, strA, imL, e0, e1, hw, e3]) | (refine AX.pcallF rfl rfl (by simp only [go_sem, unim_im]; rfl) (by simp only [go_sem, unim_im]; rfl) (by solve_by_elim) rfl rfl ?_; simp only [go_sem, reduceCtorEq, imR_len, List.length_map, List.getElem?_map, hx, strA, imL, e0, e1, hw, e3]))
        | ((show indepK _ _ _ _ = true ∧ _); refine And.intro (by kernel_rfl) ?_)
        | ((show _ ∧ _); refine And.intro (by first | omega | assumption | (simp only [go_sem]; omega) | (simp; omega) | (simp; done)) ?_)
        | (refine hK _ ?_; clear hK K)
        | (clear hK K; refine hK _ ?_; clear hK K)
        | (clear hK K; clear hK K; refine hK _ ?_; clear hK K)
        | (clear hK K; clear hK K; clear hK K; refine hK _ ?_; clear hK K)
        | fail)
      refine AX.gcall [20] rfl rfl (hl) (by simp only [go_sem, reduceCtorEq, f1]) (by simp only [go_sem, reduceCtorEq, f1]) rfl rfl (by simp only [go_sem, Obj.owns]) rfl (by simp only [go_sem, Obj.owns]) rfl rfl ?_
      simp only [go_sem, reduceCtorEq, f1]
      repeat' (first
        | ((show W _ _ _ _); first | (refine W.seq fun K hK => ?_) | refine W.block ?_ | (refine W.reg rfl ?_; simp only [go_sem, reduceCtorEq, imR_len, List.length_map, List.getElem?_map, hx, strA, imL, e0, e1, hw, f1, f2, f3, f4, f5, toList_arr]) | (refine W.regD Try_mo rfl rfl ?_; simp only [go_sem, reduceCtorEq, imR_len, List.length_map, List.getElem?_map, hx, strA, imL, e0, e1, hw, f1, f2, f3, f4, f5, toList_arr]) | (refine W.skip ?_; simp only [go_sem]) | (refine W.exit ?_; simp only [go_sem]) | (refine W.ret (Post.ret ?_); simp only [go_sem, reduceCtorEq, imR_len, List.length_map, List.getElem?_map, hx, strA, imL, e0, e1, hw, f1, f2, f3, f4, f5, toList_arr]) | refine W.condT rfl ?_ | refine W.condF rfl ?_ | refine W.cond rfl (fun h => ?_) (fun h => ?_))
        | ((show AX _ _ _ _ _); first | (refine AX.pcall rfl rfl (by simp only [go_sem, unim_im]; rfl) (by solve_by_elim) rfl rfl ?_; simp only [go_sem, reduceCtorEq, imR_len, List.length_map, List.getElem?_map, hx, strA, imL, e0, e1, hw, f1, f2, f3, f4, f5, toList_arr]) | (refine AX.pcallF rfl rfl (by simp only [go_sem, unim_im]; rfl) (by simp only [go_sem, unim_im]; rfl) (by solve_by_elim) rfl rfl ?_; simp only [go_sem, reduceCtorEq, imR_len, List.length_map, List.getElem?_map, hx, strA, imL, e0, e1, hw, f1, f2, f3, f4, f5, toList_arr]))
        | ((show indepK _ _ _ _ = true ∧ _); refine And.intro (by kernel_rfl) ?_)
        | ((show _ ∧ _); refine And.intro (by first | omega | assumption | (simp only [go_sem]; omega) | (simp; omega) | (simp; done)) ?_)
        | (refine hK _ ?_; clear hK K)
        | (clear hK K; refine hK _ ?_; clear hK K)
        | (clear hK K; clear hK K; refine hK _ ?_; clear hK K)
        | (clear hK K; clear hK K; clear hK K; refine hK _ ?_; clear hK K)
        | fail)
      exact hKL.to (i + 1) (by omega) (by omega) (Fits.fit [(0, 0)] [6, 9, 10] 1 rfl rfl (by simp only [go_sem]; exact Fits.rfl))
  by_cases hn : n < ka.length
  · have e1 : decide ((n : Int) < (ka.length : Int)) = true := by simp; omega
    have g5 := g4 hn
    rw [e1]
    obtain ⟨G, hG⟩ : ∃ G, G = s.extract 0 (min s.size 1) := ⟨_, rfl⟩
    obtain ⟨H, hH⟩ : ∃ H, H = (⟨ka.toArray⟩ : ByteArray).extract (n + 1) ka.length := ⟨_, rfl⟩
    have zG : G.size ≤ 1 := by rw [hG, ByteArray.size_extract]; omega
    have zH : H.size ≤ 10000 := by rw [hH, ByteArray.size_extract, ba_size]; omega
    repeat' (first
      | ((show W _ _ _ _); first | (refine W.seq fun K hK => ?_) | refine W.block ?_ | (refine W.reg rfl ?_; simp only [go_sem, reduceCtorEq, ba_size, g5, f1, ← hG, ← hH, ← hB, imR_len, List.length_map]) | (refine W.regD Try_mo rfl rfl ?_; simp only [go_sem, reduceCtorEq, ba_size, g5, f1, ← hG, ← hH, ← hB, imR_len, List.length_map]) | (refine W.skip ?_; simp only [go_sem]) | (refine W.exit ?_; simp only [go_sem]) | (refine W.ret (Post.ret ?_); simp only [go_sem, reduceCtorEq, ba_size, g5, f1, ← hG, ← hH, ← hB, imR_len, List.length_map]) | refine W.condT rfl ?_ | refine W.condF rfl ?_ | refine W.cond rfl (fun h => ?_) (fun h => ?_))
      | ((show AX _ _ _ _ _); first | (refine AX.pcall rfl rfl (by simp only [go_sem, unim_im]; rfl) (by solve_by_elim) rfl rfl ?_; simp only [go_sem, reduceCtorEq, ba_size, g5, f1, ← hG, ← hH, ← hB, imR_len, List.length_map]) | (refine AX.pcallF rfl rfl (by simp only [go_sem, unim_im]; rfl) (by simp only [go_sem, unim_im]; rfl) (by solve_by_elim) rfl rfl ?_; simp only [go_sem, reduceCtorEq, ba_size, g5, f1, ← hG, ← hH, ← hB, imR_len, List.length_map]))
      | ((show indepK _ _ _ _ = true ∧ _); refine And.intro (by kernel_rfl) ?_)
      | ((show _ ∧ _); refine And.intro (by first | omega | assumption | (simp only [go_sem]; omega) | (simp; omega) | (simp; done)) ?_)
      | (refine hK _ ?_; clear hK K)
      | (clear hK K; refine hK _ ?_; clear hK K)
      | (clear hK K; clear hK K; refine hK _ ?_; clear hK K)
      | (clear hK K; clear hK K; clear hK K; refine hK _ ?_; clear hK K)
      | fail)
    refine main ([A, B, B ++ D ++ F] ++ [B ++ G ++ H]) ?_ (by simp) _ (Fits.fit [(21, 0)] [6, 9] 1 rfl rfl ?_)
    · intro t ht
      simp only [List.cons_append, List.nil_append, List.mem_cons, List.not_mem_nil, or_false] at ht
      rcases ht with rfl | rfl | rfl | rfl <;> first | omega | (simp only [ByteArray.size_append]; omega)
    · simp only [go_sem, List.map_append, List.map_cons, List.map_nil, imR_app, imR_one, imL, strA]
      exact Fits.rfl
  · have e1 : decide ((n : Int) < (ka.length : Int)) = false := by simp; omega
    rw [e1]
    repeat' (first
      | ((show W _ _ _ _); first | (refine W.seq fun K hK => ?_) | refine W.block ?_ | (refine W.reg rfl ?_; simp only [go_sem, reduceCtorEq]) | (refine W.regD Try_mo rfl rfl ?_; simp only [go_sem, reduceCtorEq]) | (refine W.skip ?_; simp only [go_sem]) | (refine W.exit ?_; simp only [go_sem]) | (refine W.ret (Post.ret ?_); simp only [go_sem, reduceCtorEq]) | refine W.condT rfl ?_ | refine W.condF rfl ?_ | refine W.cond rfl (fun h => ?_) (fun h => ?_))
      | ((show AX _ _ _ _ _); first | (refine AX.pcall rfl rfl (by simp only [go_sem, unim_im]; rfl) (by solve_by_elim) rfl rfl ?_; simp only [go_sem, reduceCtorEq]) | (refine AX.pcallF rfl rfl (by simp only [go_sem, unim_im]; rfl) (by simp only [go_sem, unim_im]; rfl) (by solve_by_elim) rfl rfl ?_; simp only [go_sem, reduceCtorEq]))
      | ((show indepK _ _ _ _ = true ∧ _); refine And.intro (by kernel_rfl) ?_)
      | ((show _ ∧ _); refine And.intro (by first | omega | assumption | (simp only [go_sem]; omega) | (simp; omega) | (simp; done)) ?_)
      | (refine hK _ ?_; clear hK K)
      | (clear hK K; refine hK _ ?_; clear hK K)
      | (clear hK K; clear hK K; refine hK _ ?_; clear hK K)
      | (clear hK K; clear hK K; clear hK K; refine hK _ ?_; clear hK K)
      | fail)
    refine main [A, B, B ++ D ++ F] ?_ (by simp) _ (Fits.fit [(0, 0)] [6, 9] 1 rfl rfl Fits.rfl)
    intro t ht
    simp only [List.mem_cons, List.not_mem_nil, or_false] at ht
    rcases ht with rfl | rfl | rfl <;> first | omega | (simp only [ByteArray.size_append]; omega)
end Go.Proofs.Ytegcmciglakicaa
namespace Go.Proofs.Ytegcmciglakicaa
open Go.ChangeMaps Go.ChangeShapes Go.WideShapes Go.ChangeAt Go.RowKit Go.Exe
set_option maxRecDepth 100000
set_option maxHeartbeats 1600000

theorem decodes_true (c35 : SortC Try.prog 35 3) (c55 : SortC Try.prog 55 2) (p : List Nat) (s : ByteArray) (at_ : Nat) (hp : ∀ x ∈ p, x < 256) (hat : at_ < 65536) : PCall Try.prog 7 [planT p, ft (.string s), ft (.int .u16 (at_ : Nat))] (ft (.bool true)) := by
  have hkp := madeP_keyW p
  have c13 : ∀ x : Shp, PCall Try.prog 13 [shT x] (shT x.canon) := fun x => by have := all13 x; rwa [mcanon_eq] at this
  have hl := keyB_len (madeP p).canon (by rw [canon_keyW]; omega)
  rw [canon_keyW] at hl
  exact decodes_c p s at_ (madeP p) (madeP p).canon (madeP p).canon.keyB hat (by omega) (known_all c35 c55) (made_c p hp) (c13 _) (keyM_all _ (by rw [canon_keyW]; omega)) (all12 c35) c13
def decodesC : Prop := ∀ (a : List Nat) (s : ByteArray) (n : Nat), (∀ x ∈ a, x < 256) → n < 65536 → PCall Try.prog 7 [planT a, ft (.string s), ft (.int .u16 (n : Nat))] (ft (.bool true))
theorem decodes_lifted (hc : decodesC) (os : Os) (started : os.Started) (H : Type) (enc : TypeId × Value → H) :
    ReturnsInHanded {} Try.checked os 7 .any (Rows.shapeDecodesSpec.pre6 enc Try.prog Try.f7 Rows.shapeDecodesRow.domain false) (Rows.shapeDecodesSpec.post enc Try.prog Try.f7 false Rows.shapeDecodesRow.fresh Rows.shapeDecodesRow.handsOn Rows.shapeDecodesRow.again) := by
  refine returnsInHanded_of_change_sized (C := Try.checked) Try.own started (by kernel_rfl) Try.func7
    (ChangeSpec.witness6 (enc := enc) (C := Try.checked) false ⟨#[], #[.slice none 0 0, .string .empty, .int .u16 0], []⟩ 8 (by kernel_rfl) (by kernel_rfl) (by kernel_rfl) (by kernel_rfl)) ?_
  intro W base args ds gs before hval0 hW _ hsz0 _
  have hsz : (DataW.weightsEach Try.prog (Try.f7.params.toList ++ Rows.shapeDecodesSpec.plain.varTypes Try.prog) (ds ++ gs)).all (· ≤ reachBytes) = true := hsz0
  clear hsz0
  have hval : ∀ (j : Nat) t v, Try.f7.params[j]? = some t → args[j]? = some v → Value.okWide Try.prog W .any base t v := hval0
  have hW' := hW
  obtain ⟨p, q, hA0, hV, rfl, hfz, hnd⟩ := hW
  have hA : DataW.TrodAll enc Try.prog W 0 (fun _ => true) true Try.f7.params.toList args.toList ds p := hA0
  rw [Try.params7] at hA hval hsz
  obtain ⟨v0, v1, v2, d0, d1, d2, p0, p1, p2, rfl, rfl, rfl, h0, h1, h2⟩ := trodAll_three hA
  obtain ⟨rfl, rfl⟩ := trodVars_none hV
  clear hA0 hval0
  simp only [List.append_nil] at hW'
  obtain ⟨a, ha0, ra0⟩ := plan_in (j := 0) (hval 0 23 v0 rfl rfl) h0 hsz rfl rfl
  obtain ⟨s, e1, _, _, hs1⟩ := open_string Try.underlying9 (hval 1 9 v1 rfl rfl) h1
  obtain ⟨n, e2, _, _, hn2⟩ := open_int Try.underlying49 (hval 2 49 v2 rfl rfl) h2
  have hlt : ∀ x ∈ p0 ++ p1 ++ p2, x.block < W.heap.size := fun x hx => by simpa using hW'.lt x hx
  have hargs : ∀ (W' : World), Below W.heap.size W W' → DataW.TrodAll enc Try.prog W' 0 (fun b => decide (b < W.heap.size)) true Try.f7.params.toList [v0, v1, v2] [d0, d1, d2] (p0 ++ p1 ++ p2) := fun W' hn => by
    have k : ∀ {v d ps}, DataW.Trod enc Try.prog W 0 (fun _ => true) true 23 v d ps → (∀ x ∈ ps, x.block < W.heap.size) → DataW.Trod enc Try.prog W' 0 (fun b => decide (b < W.heap.size)) true 23 v d ps :=
      fun h hl => Below.trod Try.laidOut (by kernel_rfl) (of_decide_eq_true (by kernel_rfl)) h hn hl
    have k9 : ∀ {v d ps}, DataW.Trod enc Try.prog W 0 (fun _ => true) true 9 v d ps → (∀ x ∈ ps, x.block < W.heap.size) → DataW.Trod enc Try.prog W' 0 (fun b => decide (b < W.heap.size)) true 9 v d ps :=
      fun h hl => Below.trod Try.laidOut (by kernel_rfl) (of_decide_eq_true (by kernel_rfl)) h hn hl
    have k49 : ∀ {v d ps}, DataW.Trod enc Try.prog W 0 (fun _ => true) true 49 v d ps → (∀ x ∈ ps, x.block < W.heap.size) → DataW.Trod enc Try.prog W' 0 (fun b => decide (b < W.heap.size)) true 49 v d ps :=
      fun h hl => Below.trod Try.laidOut (by kernel_rfl) (of_decide_eq_true (by kernel_rfl)) h hn hl
    rw [Try.params7, List.append_assoc]
    exact trodAll_mk3 (k h0 fun x hx => hlt x (by simp [hx])) (k9 h1 fun x hx => hlt x (by simp [hx])) (k49 h2 fun x hx => hlt x (by simp [hx]))
  have hn : 0 ≤ n ∧ n < 65536 := by
    simp [Lit.wf, IntKind.min, IntKind.max, IntKind.bits, IntKind.signed] at hn2
    omega
  have en : ((n.toNat : Nat) : Int) = n := by omega
  have hcall := (hc a s n.toNat ha0 (by omega)).2 (fun _ => True) W [v0, v1, v2] (Al.cons ra0 (Al.cons (by rw [e1]; exact RepA.flat rfl) (Al.cons (by rw [e2, en]; exact RepA.flat rfl) Al.nil)))
  refine hcall.mono fun e W' ⟨v, he, ⟨hB, _⟩, hr⟩ => ?_
  subst he
  obtain rfl : v = .bool true := RepA.flat_eq hr
  refine ⟨_, rfl, _, _, _, [], p0 ++ p1 ++ p2, [], hW', ?_, ?_, ?_, hB.frame _, fun h => by cases h⟩
  · exact trodAll_mk1 (shut_bool Try.underlying4 true)
  · exact hargs W' hB
  · rfl
theorem decodes_holds (hc : decodesC) : Rows.ShapeDecodesSaid :=
  OpenClaim.holds_of_wide 7 Try.f7 rfl rfl rfl rfl rfl rfl rfl ⟨rfl, rfl, rfl, rfl, rfl⟩ rfl rfl rfl rfl rfl (by kernel_rfl) Try.func7 (by kernel_rfl)
    (of_decide_eq_true (by kernel_rfl)) (by unfold Func.isWrapper; rw [if_neg (by decide +kernel)]; exact ⟨rfl, rfl⟩)
    (fun os started H enc _ => decodes_lifted hc os started H enc)
end Go.Proofs.Ytegcmciglakicaa
namespace Go.Proofs.Ytegcmciglakicaa
theorem ytegcmciglakicaa_shapeDecodes_holds : Rows.ShapeDecodesSaid := decodes_holds (fun p s n hp hn => decodes_true sort35_c sort55_c p s n hp hn)
end Go.Proofs.Ytegcmciglakicaa
