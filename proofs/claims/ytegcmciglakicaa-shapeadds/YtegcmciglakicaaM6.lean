/-
  What is proved: whatever three byte lists it is handed, sleuthlaw20.ShapeAdds answers true and leaves them as they were (Rows.ShapeAddsSaid). Conditions: none beyond the row's own.
-/
import Derived.Test.YtegcmciglakicaaM5
import Derived.Test.YtegcmciglakicaaM2
namespace Go.Proofs.Ytegcmciglakicaa
open Go.RowKit Go.Exe
set_option linter.unusedVariables false
set_option linter.unusedSimpArgs false
set_option maxRecDepth 100000

/-! ### a number's bytes lead back to it -/
def nval (l : List UInt8) : Nat := l.foldl (fun a b => a * 256 + b.toNat) 0
theorem lt_nsize : ∀ (k m : Nat), m < 256 ^ k → m < 256 ^ nsize m
  | 0, m, h => by simp at h; subst h; rw [nsize_0]; decide
  | k + 1, m, h => by
    by_cases h0 : m = 0
    · subst h0; rw [nsize_0]; decide
    · rw [nsize_s (by omega), Nat.add_comm, Nat.pow_succ]
      have := lt_nsize k (m / 256) (by rw [Nat.pow_succ] at h; omega)
      omega
def nbytes (m : Nat) : List UInt8 := (List.range (nsize m)).map fun j => UInt8.ofNat (nbyte m (nsize m - 1 - j) false)
theorem numB_pos {n : Int} (h : 0 ≤ n) : numB n = UInt8.ofNat (128 + nsize n.natAbs) :: nbytes n.natAbs := by
  have : decide (n < 0) = false := by simp; omega
  simp only [numB, this, nhead, nbytes]
  rfl
theorem nbytes_len (m : Nat) : (nbytes m).length = nsize m := by simp [nbytes]
theorem nval_take {m : Nat} (h : m < 18446744073709551616) : ∀ i, i ≤ nsize m → nval ((nbytes m).take i) = m / 256 ^ (nsize m - i)
  | 0, _ => by
    simp only [List.take_zero, nval, List.foldl_nil, Nat.sub_zero]
    rw [Nat.div_eq_of_lt (lt_nsize 8 m (by simpa using h))]
  | i + 1, hi => by
    have ih := nval_take h i (by omega)
    have hg : (nbytes m)[i]? = some (UInt8.ofNat (nbyte m (nsize m - 1 - i) false)) := by
      simp [nbytes, List.getElem?_range (show i < nsize m by omega)]
    rw [List.take_add_one, hg]
    simp only [Option.toList_some, nval, List.foldl_append, List.foldl_cons, List.foldl_nil]
    simp only [nval] at ih
    rw [ih, UInt8.toNat_ofNat_of_lt' (by have := nbyte_lt m (nsize m - 1 - i) false; simpa [UInt8.size] using this)]
    simp only [nbyte, Bool.false_eq_true, if_false]
    have e1 : nsize m - i = (nsize m - 1 - i) + 1 := by omega
    have e2 : nsize m - (i + 1) = nsize m - 1 - i := by omega
    rw [e1, e2, Nat.pow_succ, ← Nat.div_div_eq_div_mul]
    omega
theorem nval_nbytes {m : Nat} (h : m < 18446744073709551616) : nval (nbytes m) = m := by
  have := nval_take h (nsize m) (Nat.le_refl _)
  rw [← nbytes_len, List.take_length] at this
  simpa [nbytes_len] using this
theorem numB_app {a b : Int} (ha : 0 ≤ a) (ha2 : a < 9223372036854775808) (hb : 0 ≤ b) (hb2 : b < 9223372036854775808) {r s : List UInt8} (h : numB a ++ r = numB b ++ s) : a = b ∧ r = s := by
  rw [numB_pos ha, numB_pos hb] at h
  simp only [List.cons_append, List.cons.injEq] at h
  obtain ⟨h1, h2⟩ := h
  have s1 := nsize_le 8 a.natAbs (by omega)
  have s2 := nsize_le 8 b.natAbs (by omega)
  have h3 : nsize a.natAbs = nsize b.natAbs := by
    have := congrArg UInt8.toNat h1
    rw [UInt8.toNat_ofNat_of_lt' (by simp [UInt8.size]; omega), UInt8.toNat_ofNat_of_lt' (by simp [UInt8.size]; omega)] at this
    omega
  obtain ⟨h4, h5⟩ := List.append_inj h2 (by rw [nbytes_len, nbytes_len, h3])
  have h6 := congrArg nval h4
  rw [nval_nbytes (by omega), nval_nbytes (by omega)] at h6
  exact ⟨by omega, h5⟩
theorem textB_app {a b : ByteArray} (ha : a.size < 9223372036854775808) (hb : b.size < 9223372036854775808) {r s : List UInt8} (h : textB a ++ r = textB b ++ s) : a = b ∧ r = s := by
  simp only [textB, List.append_assoc] at h
  obtain ⟨h1, h2⟩ := numB_app (by omega) (by omega) (by omega) (by omega) h
  have h3 : a.size = b.size := by omega
  obtain ⟨h4, h5⟩ := List.append_inj h2 (by simpa using h3)
  refine ⟨?_, h5⟩
  cases a with
  | mk a =>
    cases b with
    | mk b => simp at h4; rw [h4]
/-- A path of texts that fit. -/
def okP (p : List Nm) : Prop := ∀ n ∈ p, n.1.size < 9223372036854775808 ∧ n.2.size < 9223372036854775808
theorem textB_pos (b : ByteArray) : textB b ≠ [] := by simp [textB, numB]
theorem pathB_inj : ∀ {p q : List Nm}, okP p → okP q → pathB p = pathB q → p = q
  | [], [], _, _, _ => rfl
  | [], n :: r, _, _, h => by simp [pathB, nameB, textB_pos] at h
  | n :: r, [], _, _, h => by simp [pathB, nameB, textB_pos] at h
  | a :: p, b :: q, h1, h2, h => by
    simp only [pathB, nameB, List.append_assoc] at h
    have k1 := h1 a (by simp)
    have k2 := h2 b (by simp)
    obtain ⟨e1, h⟩ := textB_app k1.1 k2.1 h
    obtain ⟨e2, h⟩ := textB_app k1.2 k2.2 h
    rw [pathB_inj (fun n hn => h1 n (by simp [hn])) (fun n hn => h2 n (by simp [hn])) h, Prod.ext e1 e2]

/-! ### deltas, told by the number of each path -/
def dval (q : List Nm) : List Dl → Int
  | [] => 0
  | d :: r => (if d.1 = q then d.2 else 0) + dval q r
theorem dval_none {q : List Nm} : ∀ {l : List Dl}, (∀ d ∈ l, d.1 ≠ q) → dval q l = 0
  | [], _ => rfl
  | d :: r, h => by
    have := dval_none (q := q) (l := r) fun x hx => h x (by simp [hx])
    simp [dval, h d (by simp), this]
theorem dval_mem {l : List Dl} (hn : (l.map (·.1)).Nodup) {d : Dl} (hd : d ∈ l) : dval d.1 l = d.2 := by
  induction l with
  | nil => simp at hd
  | cons x r ih =>
    simp only [List.map_cons, List.nodup_cons] at hn
    rcases List.mem_cons.1 hd with rfl | hd
    · have : dval d.1 r = 0 := dval_none fun y hy e => hn.1 (List.mem_map.2 ⟨y, hy, e⟩)
      simp [dval, this]
    · have hne : x.1 ≠ d.1 := fun e => hn.1 (List.mem_map.2 ⟨d, hd, e.symm⟩)
      simp [dval, hne, ih hn.2 hd]
theorem mem_dval {l : List Dl} {q : List Nm} (h : dval q l ≠ 0) (hn : (l.map (·.1)).Nodup) : (q, dval q l) ∈ l := by
  by_cases hx : ∃ d ∈ l, d.1 = q
  · obtain ⟨d, hd, rfl⟩ := hx
    rw [dval_mem hn hd]
    exact hd
  · exact absurd (dval_none fun d hd e => hx ⟨d, hd, e⟩) h
theorem dval_filter (q : List Nm) : ∀ l : List Dl, dval q (l.filter fun d => d.2 != 0) = dval q l
  | [] => rfl
  | d :: r => by
    have ih := dval_filter q r
    by_cases h : d.2 = 0
    · simp [List.filter_cons, h, dval, ih]
    · simp [List.filter_cons, h, dval, ih]
theorem filter_keys {l : List Dl} (hn : (l.map (·.1)).Nodup) : ((l.filter fun d => d.2 != 0).map (·.1)).Nodup :=
  (List.filter_sublist.map _).nodup hn
theorem nodup_of_keys {l : List Dl} (hn : (l.map (·.1)).Nodup) : l.Nodup := by
  induction l with
  | nil => exact List.nodup_nil
  | cons x r ih =>
    simp only [List.map_cons, List.nodup_cons] at hn
    exact List.nodup_cons.2 ⟨fun h => hn.1 (List.mem_map.2 ⟨x, h, rfl⟩), ih hn.2⟩
/-- Two lists of apart paths without zeros that give each path the same number have the same elements. -/
theorem dval_perm {l m : List Dl} (hl : (l.map (·.1)).Nodup) (hm : (m.map (·.1)).Nodup) (zl : ∀ d ∈ l, d.2 ≠ 0) (zm : ∀ d ∈ m, d.2 ≠ 0) (h : ∀ q, dval q l = dval q m) : l.Perm m := by
  refine (List.perm_ext_iff_of_nodup (nodup_of_keys hl) (nodup_of_keys hm)).2 fun d => ⟨fun hd => ?_, fun hd => ?_⟩
  · have h1 := dval_mem hl hd
    have h2 := mem_dval (l := m) (q := d.1) (by rw [← h, h1]; exact zl d hd) hm
    rw [← h, h1] at h2
    exact h2
  · have h1 := dval_mem hm hd
    have h2 := mem_dval (l := l) (q := d.1) (by rw [h, h1]; exact zm d hd) hl
    rw [h, h1] at h2
    exact h2
/-- The model's lists: paths in order, each once, no zeros. -/
structure Nrm (l : List Dl) : Prop where
  lt : l.Pairwise fun a b => cmpPath a.1 b.1 < 0
  nz : ∀ d ∈ l, d.2 ≠ 0
theorem keys_of_lt {l : List Dl} (h : l.Pairwise fun a b => cmpPath a.1 b.1 < 0) : (l.map (·.1)).Nodup := by
  induction l with
  | nil => simp
  | cons x r ih =>
    rw [List.pairwise_cons] at h
    simp only [List.map_cons, List.nodup_cons]
    refine ⟨fun hx => ?_, ih h.2⟩
    obtain ⟨y, hy, e⟩ := List.mem_map.1 hx
    have := h.1 y hy
    rw [e, lwPath.refl] at this
    omega
theorem Nrm.keys {l : List Dl} (h : Nrm l) : (l.map (·.1)).Nodup := keys_of_lt h.lt
theorem le_of_lt {l : List Dl} (h : l.Pairwise fun a b => cmpPath a.1 b.1 < 0) : l.Pairwise fun a b => ¬ cmpPath b.1 a.1 < 0 :=
  h.imp fun {a b} h => by have := lwPath.anti a.1 b.1; omega
theorem dl_uniq {zs zs' : List Dl} (hp : zs'.Perm zs) (hn : (zs.map (·.1)).Nodup) (h1 : zs'.Pairwise fun a b => ¬ cmpPath b.1 a.1 < 0) (h2 : zs.Pairwise fun a b => ¬ cmpPath b.1 a.1 < 0) : zs' = zs :=
  dl_uni hp (fun a ha b hb e => Prod.ext e (by have := dval_mem hn ha; have h3 := dval_mem hn hb; rw [e] at this; rw [← this, ← h3])) h1 h2
theorem nrm_ext {l m : List Dl} (hl : Nrm l) (hm : Nrm m) (h : ∀ q, dval q l = dval q m) : l = m :=
  dl_uniq (dval_perm hl.keys hm.keys hl.nz hm.nz h) hm.keys (le_of_lt hl.lt) (le_of_lt hm.lt)
/-! ### the model's with -/
def withD (p : List Nm) (b : Int) : List Dl → List Dl
  | [] => if b ≠ 0 then [(p, b)] else []
  | d :: r => if cmpPath d.1 p < 0 then d :: withD p b r else if cmpPath d.1 p = 0 then (if IntKind.i64.wrap (b + d.2) ≠ 0 then (p, IntKind.i64.wrap (b + d.2)) :: r else r) else (if b ≠ 0 then (p, b) :: d :: r else d :: r)
/-- No number of a list is greater than n. -/
def Bnd (n : Int) (l : List Dl) : Prop := ∀ d ∈ l, -n ≤ d.2 ∧ d.2 ≤ n
theorem withD_bnd {p : List Nm} {b n k : Int} (hk : -k ≤ b ∧ b ≤ k) (hn : 0 ≤ n) (hs : n + k < 9223372036854775808) : ∀ {l : List Dl}, Bnd n l → Bnd (n + k) (withD p b l)
  | [], _ => by
    intro d hd
    simp only [withD] at hd
    split at hd
    · rw [List.mem_singleton] at hd; subst hd; simp only; omega
    · simp at hd
  | x :: r, h => by
    have hx := h x (by simp)
    have hr : Bnd n r := fun d hd => h d (by simp [hd])
    have ih := withD_bnd (p := p) hk hn hs hr
    have hr2 : ∀ d ∈ r, -(n + k) ≤ d.2 ∧ d.2 ≤ n + k := fun d hd => by have := hr d hd; omega
    have hw : IntKind.i64.wrap (b + x.2) = b + x.2 := w64 (by omega) (by omega)
    intro d hd
    simp only [withD] at hd
    split at hd
    · rcases List.mem_cons.1 hd with rfl | hd
      · omega
      · exact ih d hd
    · split at hd
      · split at hd
        · rcases List.mem_cons.1 hd with rfl | hd
          · simp only; omega
          · exact hr2 d hd
        · exact hr2 d hd
      · split at hd
        · rcases List.mem_cons.1 hd with rfl | hd
          · simp only; omega
          · rcases List.mem_cons.1 hd with rfl | hd
            · omega
            · exact hr2 d hd
        · rcases List.mem_cons.1 hd with rfl | hd
          · omega
          · exact hr2 d hd
theorem dval_gt {q : List Nm} {l : List Dl} (h : ∀ d ∈ l, cmpPath q d.1 < 0) : dval q l = 0 :=
  dval_none fun d hd e => by have := h d hd; rw [e, lwPath.refl] at this; omega
theorem withD_spec {p : List Nm} {b n k : Int} (hk : -k ≤ b ∧ b ≤ k) (hn : 0 ≤ n) (hs : n + k < 9223372036854775808) : ∀ {l : List Dl}, Nrm l → Bnd n l →
    Nrm (withD p b l) ∧ (∀ q, dval q (withD p b l) = dval q l + if p = q then b else 0) ∧ ∀ q, cmpPath q p < 0 → (∀ d ∈ l, cmpPath q d.1 < 0) → ∀ d ∈ withD p b l, cmpPath q d.1 < 0
  | [], _, _ => by
    simp only [withD]
    split
    · rename_i h
      refine ⟨⟨by simp, by simpa using h⟩, fun q => by simp [dval], fun q h1 _ d hd => ?_⟩
      rw [List.mem_singleton] at hd; subst hd; exact h1
    · rename_i h
      have h : b = 0 := by omega
      refine ⟨⟨by simp, by simp⟩, fun q => by simp [dval, h], fun q _ _ d hd => by simp at hd⟩
  | x :: r, hl, hb => by
    have hx := hb x (by simp)
    have hlt := List.pairwise_cons.1 hl.lt
    have hr : Nrm r := ⟨hlt.2, fun d hd => hl.nz d (by simp [hd])⟩
    have ih := withD_spec (p := p) hk hn hs hr fun d hd => hb d (by simp [hd])
    have hw : IntKind.i64.wrap (b + x.2) = b + x.2 := w64 (by omega) (by omega)
    simp only [withD]
    split
    · rename_i h1
      refine ⟨⟨List.pairwise_cons.2 ⟨ih.2.2 x.1 h1 hlt.1, ih.1.lt⟩, fun d hd => ?_⟩, fun q => by simp only [dval, ih.2.1]; omega, fun q h2 h3 d hd => ?_⟩
      · rcases List.mem_cons.1 hd with rfl | hd
        · exact hl.nz d (by simp)
        · exact ih.1.nz d hd
      · rcases List.mem_cons.1 hd with rfl | hd
        · exact h3 d (by simp)
        · exact ih.2.2 q h2 (fun d hd => h3 d (by simp [hd])) d hd
    · rename_i h1
      split
      · rename_i h2
        have e := lwPath.eq _ _ h2
        rw [hw]
        split
        · rename_i h3
          refine ⟨⟨List.pairwise_cons.2 ⟨fun d hd => by rw [← e]; exact hlt.1 d hd, hlt.2⟩, fun d hd => ?_⟩, fun q => ?_, fun q h4 h5 d hd => ?_⟩
          · rcases List.mem_cons.1 hd with rfl | hd
            · exact h3
            · exact hr.nz d hd
          · simp only [dval, e]; split <;> omega
          · rcases List.mem_cons.1 hd with rfl | hd
            · exact h4
            · exact h5 d (by simp [hd])
        · rename_i h3
          refine ⟨hr, fun q => ?_, fun q h4 h5 d hd => h5 d (by simp [hd])⟩
          simp only [dval, e]; split <;> omega
      · rename_i h2
        have h0 : cmpPath p x.1 < 0 := by have := lwPath.anti x.1 p; omega
        split
        · rename_i h3
          refine ⟨⟨List.pairwise_cons.2 ⟨fun d hd => ?_, hl.lt⟩, fun d hd => ?_⟩, fun q => by simp only [dval]; omega, fun q h4 h5 d hd => ?_⟩
          · rcases List.mem_cons.1 hd with rfl | hd
            · exact h0
            · have := hlt.1 d hd
              exact lwPath.lt1 h0 (by omega)
          · rcases List.mem_cons.1 hd with rfl | hd
            · exact h3
            · exact hl.nz d hd
          · rcases List.mem_cons.1 hd with rfl | hd
            · exact h4
            · exact h5 d hd
        · rename_i h3
          have h3 : b = 0 := by omega
          exact ⟨hl, fun q => by rw [h3]; simp, fun q h4 h5 d hd => h5 d hd⟩
mutual
def Shp.pathsD (by_ : Int) : Shp → List Nm → List Dl → List Dl
  | .mk s o ks, above, ds => pathssD by_ ks (above ++ [(s, o)]) (withD (above ++ [(s, o)]) by_ ds)
def pathssD (by_ : Int) : List Shp → List Nm → List Dl → List Dl
  | [], _, ds => ds
  | x :: r, path, ds => pathssD by_ r path (x.pathsD by_ path ds)
end
mutual
/-- The number of a path in a shape. -/
def Shp.cnt (q : List Nm) : Shp → List Nm → Int
  | .mk s o ks, above => (if above ++ [(s, o)] = q then 1 else 0) + cnts q ks (above ++ [(s, o)])
def cnts (q : List Nm) : List Shp → List Nm → Int
  | [], _ => 0
  | x :: r, path => x.cnt q path + cnts q r path
end
mutual
theorem pathsD_spec {b : Int} (hb : b = 1 ∨ b = -1) : ∀ (x : Shp) (above : List Nm) (l : List Dl) (n : Int), Nrm l → 0 ≤ n → Bnd n l → n + x.size < 9223372036854775808 →
    Nrm (x.pathsD b above l) ∧ Bnd (n + x.size) (x.pathsD b above l) ∧ ∀ q, dval q (x.pathsD b above l) = dval q l + b * x.cnt q above
  | .mk s o ks, above, l, n, hl, hn, hB, hs => by
    simp only [Shp.size] at hs
    have hk : -1 ≤ b ∧ b ≤ 1 := by omega
    have h1 := withD_spec (p := above ++ [(s, o)]) hk hn (by omega) hl hB
    have h2 := withD_bnd (p := above ++ [(s, o)]) hk hn (by omega) hB
    have h3 := pathssD_spec hb ks (above ++ [(s, o)]) (withD (above ++ [(s, o)]) b l) (n + 1) h1.1 (by omega) h2 (by omega)
    simp only [Shp.pathsD, Shp.size, Shp.cnt]
    refine ⟨h3.1, ?_, fun q => ?_⟩
    · have e : n + ((1 + sizes ks : Nat) : Int) = n + 1 + sizes ks := by omega
      rw [e]; exact h3.2.1
    · rw [h3.2.2 q, h1.2.1 q, Int.mul_add]
      split <;> omega
theorem pathssD_spec {b : Int} (hb : b = 1 ∨ b = -1) : ∀ (ks : List Shp) (path : List Nm) (l : List Dl) (n : Int), Nrm l → 0 ≤ n → Bnd n l → n + sizes ks < 9223372036854775808 →
    Nrm (pathssD b ks path l) ∧ Bnd (n + sizes ks) (pathssD b ks path l) ∧ ∀ q, dval q (pathssD b ks path l) = dval q l + b * cnts q ks path
  | [], path, l, n, hl, hn, hB, hs => by
    simp only [pathssD, sizes, cnts]
    exact ⟨hl, by simpa using hB, fun q => by simp⟩
  | x :: r, path, l, n, hl, hn, hB, hs => by
    simp only [sizes] at hs
    have h1 := pathsD_spec hb x path l n hl hn hB (by omega)
    have h2 := pathssD_spec hb r path (x.pathsD b path l) (n + x.size) h1.1 (by omega) h1.2.1 (by omega)
    simp only [pathssD, sizes, cnts]
    refine ⟨h2.1, ?_, fun q => ?_⟩
    · have e : n + ((x.size + sizes r : Nat) : Int) = n + x.size + sizes r := by omega
      rw [e]; exact h2.2.1
    · rw [h2.2.2 q, h1.2.2 q, Int.mul_add]; omega
end
/-! ### the program's map -/
def okD (l : List Dl) : Prop := ∀ d ∈ l, okP d.1
theorem addD_spec {p : List Nm} {b n : Int} (hk : -1 ≤ b ∧ b ≤ 1) (hn : 0 ≤ n) (hs : n + 1 < 9223372036854775808) (hp : okP p) : ∀ {l : List Dl}, Bnd n l → okD l →
    Bnd (n + 1) (addD p b l) ∧ okD (addD p b l) ∧ (∀ q, dval q (addD p b l) = dval q l + if p = q then b else 0)
  | [], _, _ => by
    simp only [addD]
    refine ⟨fun d hd => ?_, fun d hd => ?_, fun q => by simp [dval]⟩
    · rw [List.mem_singleton] at hd; subst hd; simp only; omega
    · rw [List.mem_singleton] at hd; subst hd; exact hp
  | x :: r, hB, hO => by
    have hx := hB x (by simp)
    have ho := hO x (by simp)
    have hr : Bnd n r := fun d hd => hB d (by simp [hd])
    have hr2 : Bnd (n + 1) r := fun d hd => by have := hr d hd; omega
    have hor : okD r := fun d hd => hO d (by simp [hd])
    have ih := addD_spec (p := p) hk hn hs hp hr hor
    have hw : IntKind.i64.wrap (x.2 + b) = x.2 + b := w64 (by omega) (by omega)
    simp only [addD]
    split
    · rename_i h
      have e := pathB_inj ho hp h
      rw [hw]
      refine ⟨fun d hd => ?_, fun d hd => ?_, fun q => by simp only [dval, e]; split <;> omega⟩
      · rcases List.mem_cons.1 hd with rfl | hd
        · simp only; omega
        · exact hr2 d hd
      · rcases List.mem_cons.1 hd with rfl | hd
        · exact ho
        · exact hor d hd
    · refine ⟨fun d hd => ?_, fun d hd => ?_, fun q => by simp only [dval, ih.2.2]; omega⟩
      · rcases List.mem_cons.1 hd with rfl | hd
        · omega
        · exact ih.1 d hd
      · rcases List.mem_cons.1 hd with rfl | hd
        · exact ho
        · exact ih.2.1 d hd
mutual
/-- A shape whose texts fit. -/
def Shp.okS : Shp → Prop
  | .mk s o ks => (s.size < 9223372036854775808 ∧ o.size < 9223372036854775808) ∧ okSs ks
def okSs : List Shp → Prop
  | [] => True
  | x :: r => x.okS ∧ okSs r
end
theorem okP_app {p : List Nm} {s o : ByteArray} (h : okP p) (k : s.size < 9223372036854775808 ∧ o.size < 9223372036854775808) : okP (p ++ [(s, o)]) := fun n hn => by
  rcases List.mem_append.1 hn with hn | hn
  · exact h n hn
  · rw [List.mem_singleton] at hn; subst hn; exact k
mutual
theorem addS_spec {b : Int} (hb : b = 1 ∨ b = -1) : ∀ (x : Shp) (above : List Nm) (l : List Dl) (n : Int), x.okS → okP above → 0 ≤ n → Bnd n l → okD l → n + x.size < 9223372036854775808 →
    Bnd (n + x.size) (x.addS b above l) ∧ okD (x.addS b above l) ∧ ∀ q, dval q (x.addS b above l) = dval q l + b * x.cnt q above
  | .mk s o ks, above, l, n, hk, ha, hn, hB, hO, hs => by
    simp only [Shp.size] at hs
    simp only [Shp.okS] at hk
    have hp := okP_app ha hk.1
    have h1 := addD_spec (b := b) (by omega) hn (by omega) hp hB hO
    have h3 := addsS_spec hb ks (above ++ [(s, o)]) (addD (above ++ [(s, o)]) b l) (n + 1) hk.2 hp (by omega) h1.1 h1.2.1 (by omega)
    simp only [Shp.addS, Shp.size, Shp.cnt]
    refine ⟨?_, h3.2.1, fun q => ?_⟩
    · have e : n + ((1 + sizes ks : Nat) : Int) = n + 1 + sizes ks := by omega
      rw [e]; exact h3.1
    · rw [h3.2.2 q, h1.2.2 q, Int.mul_add]
      split <;> omega
theorem addsS_spec {b : Int} (hb : b = 1 ∨ b = -1) : ∀ (ks : List Shp) (path : List Nm) (l : List Dl) (n : Int), okSs ks → okP path → 0 ≤ n → Bnd n l → okD l → n + sizes ks < 9223372036854775808 →
    Bnd (n + sizes ks) (addsS b ks path l) ∧ okD (addsS b ks path l) ∧ ∀ q, dval q (addsS b ks path l) = dval q l + b * cnts q ks path
  | [], path, l, n, hk, hp, hn, hB, hO, hs => by
    simp only [addsS, sizes, cnts]
    exact ⟨by simpa using hB, hO, fun q => by simp⟩
  | x :: r, path, l, n, hk, hp, hn, hB, hO, hs => by
    simp only [sizes] at hs
    simp only [okSs] at hk
    have h1 := addS_spec hb x path l n hk.1 hp hn hB hO (by omega)
    have h2 := addsS_spec hb r path (x.addS b path l) (n + x.size) hk.2 hp (by omega) h1.1 h1.2.1 (by omega)
    simp only [addsS, sizes, cnts]
    refine ⟨?_, h2.2.1, fun q => ?_⟩
    · have e : n + ((x.size + sizes r : Nat) : Int) = n + x.size + sizes r := by omega
      rw [e]; exact h2.1
    · rw [h2.2.2 q, h1.2.2 q, Int.mul_add]; omega
end
theorem keys_path {l : List Dl} (h : (l.map fun d => pkey d.1).Nodup) : (l.map (·.1)).Nodup := by
  have : (l.map fun d => pkey d.1) = (l.map (·.1)).map pkey := by simp [Function.comp_def]
  rw [this] at h
  exact List.Pairwise.of_map pkey (fun a b h e => h (congrArg pkey e)) h
/-- The list of a map is the model's list that gives each path the same number. -/
theorem list_is (c55 : SortC Try.prog 55 2) {ds zs : List Dl} (hlen : ds.length * 32 ≤ 140737488355328) (hk : (ds.map fun d => pkey d.1).Nodup) (hz : Nrm zs) (h : ∀ q, dval q ds = dval q zs) :
    PCall Try.prog 39 [.c (.im (.mp 9 (dA ds)))] (lsT zs) := by
  have hf := filter_keys (keys_path hk)
  refine list_c c55 cmpOr_c ds zs hlen (fun l _ => cmpPath_ord l) ?_ ?_
  · exact dval_perm hz.keys hf hz.nz (fun d hd => by simpa using (List.mem_filter.1 hd).2) fun q => by rw [dval_filter, h]
  · exact fun zs' hp h1 => dl_uniq hp hz.keys h1 (le_of_lt hz.lt)
theorem nrm_nil : Nrm [] := ⟨List.Pairwise.nil, by simp⟩
theorem bnd_nil (n : Int) : Bnd n [] := fun d hd => by simp at hd
theorem paths_is (c55 : SortC Try.prog 55 2) (x : Shp) (hk : x.okS) (hw : x.tw ≤ 140737488355328) (hs : x.size < 4611686018427387904) : PCall Try.prog 24 [shT x] (lsT (x.pathsD 1 [] [])) := by
  have h1 := pathsD_spec (.inl rfl) x [] [] 0 nrm_nil (Int.le_refl _) (bnd_nil _) (by omega)
  have h2 := addS_spec (b := 1) (.inl rfl) x [] [] 0 hk (fun n hn => by simp at hn) (Int.le_refl _) (bnd_nil _) (fun d hd => by simp at hd) (by omega)
  refine paths_c x _ (list_is c55 ?_ (addS_keys 1 x [] [] (by simp)) h1.1 fun q => by rw [h1.2.2, h2.2.2]) hw
  have := addS_len 1 x [] []
  simp only [List.length_nil, Nat.zero_mul, Nat.zero_add] at this
  omega
def Shp.diff (a b : Shp) : List Dl := a.pathsD (-1) [] (b.pathsD 1 [] [])
theorem diff_spec (a b : Shp) (hs : a.size + b.size < 4611686018427387904) : Nrm (a.diff b) ∧ Bnd (b.size + a.size) (a.diff b) ∧ ∀ q, dval q (a.diff b) = b.cnt q [] - a.cnt q [] := by
  have h1 := pathsD_spec (b := 1) (.inl rfl) b [] [] 0 nrm_nil (Int.le_refl _) (bnd_nil _) (by omega)
  have h2 := pathsD_spec (b := -1) (.inr rfl) a [] (b.pathsD 1 [] []) (0 + b.size) h1.1 (by omega) h1.2.1 (by omega)
  refine ⟨h2.1, by have := h2.2.1; rwa [Int.zero_add] at this, fun q => ?_⟩
  have := h2.2.2 q
  rw [h1.2.2 q] at this
  simp only [dval] at this
  simp only [Shp.diff]
  omega
theorem diff_is (c55 : SortC Try.prog 55 2) (a b : Shp) (hka : a.okS) (hkb : b.okS) (hwa : a.tw + b.tw ≤ 140737488355328) (hs : a.size + b.size < 4611686018427387904) : PCall Try.prog 20 [shT a, shT b] (lsT (a.diff b)) := by
  have h1 := diff_spec a b hs
  have h2 := addS_spec (b := 1) (.inl rfl) b [] [] 0 hkb (fun n hn => by simp at hn) (Int.le_refl _) (bnd_nil _) (fun d hd => by simp at hd) (by omega)
  have h3 := addS_spec (b := -1) (.inr rfl) a [] (b.addS 1 [] []) (0 + b.size) hka (fun n hn => by simp at hn) (by omega) h2.1 h2.2.1 (by omega)
  refine diff_c a b _ (list_is c55 ?_ (addS_keys (-1) a [] _ (addS_keys 1 b [] [] (by simp))) h1.1 fun q => by rw [h1.2.2, h3.2.2, h2.2.2]; simp only [dval]; omega) (by omega) (by omega)
  have l1 := addS_len 1 b [] []
  have l2 := addS_len (-1) a [] (b.addS 1 [] [])
  simp only [List.length_nil, Nat.zero_mul, Nat.zero_add] at l1
  omega
end Go.Proofs.Ytegcmciglakicaa
namespace Go.Proofs.Ytegcmciglakicaa
open Go.RowKit Go.Exe
set_option linter.unusedVariables false
set_option linter.unusedSimpArgs false
set_option maxHeartbeats 1000000
set_option maxRecDepth 100000
attribute [local irreducible] W AX Run RunD AStep AOp AOpX AStB AStH AStG Fits PCall GCall PostG Post Stop

theorem cmpN_split (a b : Nm) (K : Int) : (if cmpN a b ≠ 0 then cmpN a b else K) = if cmpB a.1 b.1 ≠ 0 then cmpB a.1 b.1 else if cmpB a.2 b.2 ≠ 0 then cmpB a.2 b.2 else K := by
  by_cases h1 : cmpB a.1 b.1 = 0 <;> by_cases h2 : cmpB a.2 b.2 = 0 <;> simp [cmpN, orL, h1, h2]
theorem comparePaths_c (xs ys : List Nm) : PCall Try.prog 21 [.c (.im (.sl 59 (xs.map nmA))), .c (.im (.sl 59 (ys.map nmA)))] (ft (.int .i64 (cmpPath xs ys))) := by
  have c36 := compareStrings_c
  have c37 := sign_c
  simp only [cmpPath]
  refine PCall.intro (nt := 54) (rs := [.tmp 4]) Try.func21 rfl ⟨by kernel_rfl, by kernel_rfl, by kernel_rfl⟩ (by simp) ?_
  rintro ⟨P, w0, ok0, may, np, pblk⟩ rfl rfl
  refine W.lenIm 0 rfl fun hlen => ?_
  refine W.lenIm 1 rfl fun hlen' => ?_
  rw [List.length_map, maxLen_is] at hlen hlen'
  repeat' (first
    | ((show W _ _ _ _); first | (refine W.seq fun K hK => ?_) | refine W.block ?_ | (refine W.reg rfl ?_; simp only [go_sem, reduceCtorEq]) | (refine W.regD Try_mo rfl rfl ?_; simp only [go_sem, reduceCtorEq]) | (refine W.skip ?_; simp only [go_sem]) | (refine W.exit ?_; simp only [go_sem]) | (refine W.ret (Post.ret ?_); simp only [go_sem, reduceCtorEq]) | refine W.condT rfl ?_ | refine W.condF rfl ?_ | refine W.cond rfl (fun h => ?_) (fun h => ?_))
    | ((show AX _ _ _ _ _); first | (refine AX.pcall rfl rfl (by simp only [go_sem, unim_im]; rfl) (by solve_by_elim) rfl rfl ?_; simp only [go_sem, reduceCtorEq]) | (refine AX.pcallF rfl rfl (by simp only [go_sem, unim_im]; rfl) (by simp only [go_sem, unim_im]; rfl) (by solve_by_elim) rfl rfl ?_; simp only [go_sem, reduceCtorEq]) | (refine AX.lookup rfl (by first | exact tM65 | exact tM66) (by first | exact tG2 | exact tG3 | exact tG4 | exact tG5 | exact tG7 | exact tG9 | exact tG12 | exact tG13 | exact tG18 | exact tG19 | exact tG20 | exact tG21 | exact tG22 | exact tG23 | exact tG25 | exact tG26 | exact tG27 | exact tG34 | exact tG36 | exact tG37 | exact tG38 | exact tG46 | exact tG49 | exact tG50 | exact tG51 | exact tG58 | exact tG59 | exact tG65 | exact tG66 | exact tG69 | exact tG70 | exact tG72 | exact tG74 | exact tG75 | exact tG79 | exact tG80 | exact tG87 | exact tG90 | exact tG95 | exact tG96 | exact tG100 | exact tG103 | exact tG111 | exact tG117 | exact tG121 | exact tG128 | exact tG134 | exact tG142 | exact tG145 | exact tG148) (by first | exact kd9) rfl rfl rfl (by assumption) rfl ?_; simp only [go_sem, reduceCtorEq]) | (refine AX.mapUpdate rfl rfl (by first | exact tM65 | exact tM66) (by first | exact kd9) rfl rfl rfl (by assumption) rfl (by simp only [go_sem, reduceCtorEq]) ?_; simp only [go_sem, reduceCtorEq]) | (refine AX.makeMap rfl (by first | exact tM65 | exact tM66) rfl ?_; simp only [go_sem, reduceCtorEq]) | (refine AX.lenMap rfl (by first | exact tM65 | exact tM66) rfl rfl rfl ?_; simp only [go_sem, reduceCtorEq]) | (refine AX.range rfl (by first | exact tM65 | exact tM66) rfl rfl rfl ?_; simp only [go_sem, reduceCtorEq]) | (refine AX.appendStr rfl (by first | exact tL22 | exact tL23 | exact tL25 | exact tL34 | exact tL36 | exact tL50 | exact tL100) (by simp only [go_sem]) (by simp only [go_sem]) (by simp only [go_sem]) rfl rfl rfl rfl (by simp only [go_sem, reduceCtorEq]; first | omega | (simp; omega)) ?_; simp only [go_sem, reduceCtorEq]) | (refine AX.shr rfl rfl rfl rfl (by first | decide | omega) ?_; simp only [go_sem, reduceCtorEq]) | (refine AX.shl rfl rfl rfl rfl (by first | decide | omega) ?_; simp only [go_sem, reduceCtorEq]) | (refine AX.bits rfl rfl rfl (by assumption) rfl ?_; simp only [go_sem, reduceCtorEq]) | (refine AX.nilSl rfl (by first | exact tL22 | exact tL23 | exact tL25 | exact tL34 | exact tL36 | exact tL50 | exact tL100) (by first | exact .inl rfl | exact .inr rfl) rfl rfl rfl ?_; simp only [go_sem, reduceCtorEq]))
    | ((show indepK _ _ _ _ = true ∧ _); refine And.intro (by kernel_rfl) ?_)
    | ((show _ ∧ _); refine And.intro (by first | omega | assumption | (simp only [go_sem]; omega) | (simp; omega) | (simp; done)) ?_)
    | (refine hK _ ?_; clear hK K)
    | (clear hK K; refine hK _ ?_; clear hK K)
    | (clear hK K; clear hK K; refine hK _ ?_; clear hK K)
    | (clear hK K; clear hK K; clear hK K; refine hK _ ?_; clear hK K)
    | fail)
  refine W.loopF (T := fun i : Nat => { t := [(0, .c (.im (.sl 59 (xs.map nmA)))), (1, .c (.im (.sl 59 (ys.map nmA)))), (4, ft (.int .i64 0)), (5, ft (.int .i64 (i : Nat)))], h := [], nx := 0, ex := [], nt := 54 })
    (Inv := fun i => i ≤ xs.length ∧ i ≤ ys.length ∧ cmpsG cmpN xs ys = cmpsG cmpN (xs.drop i) (ys.drop i)) (μ := fun i => xs.length - i) (x0 := 0) (Fits.fit [] [0, 1, 4, 5] 0 rfl rfl ?_) ⟨Nat.zero_le _, Nat.zero_le _, rfl⟩ ?_
  · simp only [go_sem]
    exact Fits.rfl
  rintro i ⟨hi, hi2, hinv⟩ KL hKL
  have hw : i < xs.length → _ := fun h => w64s i (by omega)
  by_cases hlt : i < xs.length
  rotate_left
  · have e1 : decide ((i : Int) < xs.length) = false := by simp; omega
    have hsub : IntKind.i64.wrap ((xs.length : Int) - ys.length) = (xs.length : Int) - ys.length := w64 (by omega) (by omega)
    have hd : xs.drop i = [] := List.drop_eq_nil_of_le (by omega)
    clear hKL
    repeat' (first
      | ((show W _ _ _ _); first | (refine W.seq fun K hK => ?_) | refine W.block ?_ | (refine W.reg rfl ?_; simp only [go_sem, reduceCtorEq, List.length_map, e1, hsub]) | (refine W.regD Try_mo rfl rfl ?_; simp only [go_sem, reduceCtorEq, List.length_map, e1, hsub]) | (refine W.skip ?_; simp only [go_sem]) | (refine W.exit ?_; simp only [go_sem]) | (refine W.ret (Post.ret ?_); simp only [go_sem, reduceCtorEq, List.length_map, e1, hsub]) | refine W.condT rfl ?_ | refine W.condF rfl ?_ | refine W.cond rfl (fun h => ?_) (fun h => ?_))
      | ((show AX _ _ _ _ _); first | (refine AX.pcall rfl rfl (by simp only [go_sem, unim_im]; rfl) (by solve_by_elim) rfl rfl ?_; simp only [go_sem, reduceCtorEq, List.length_map, e1, hsub]) | (refine AX.pcallF rfl rfl (by simp only [go_sem, unim_im]; rfl) (by simp only [go_sem, unim_im]; rfl) (by solve_by_elim) rfl rfl ?_; simp only [go_sem, reduceCtorEq, List.length_map, e1, hsub]) | (refine AX.lookup rfl (by first | exact tM65 | exact tM66) (by first | exact tG2 | exact tG3 | exact tG4 | exact tG5 | exact tG7 | exact tG9 | exact tG12 | exact tG13 | exact tG18 | exact tG19 | exact tG20 | exact tG21 | exact tG22 | exact tG23 | exact tG25 | exact tG26 | exact tG27 | exact tG34 | exact tG36 | exact tG37 | exact tG38 | exact tG46 | exact tG49 | exact tG50 | exact tG51 | exact tG58 | exact tG59 | exact tG65 | exact tG66 | exact tG69 | exact tG70 | exact tG72 | exact tG74 | exact tG75 | exact tG79 | exact tG80 | exact tG87 | exact tG90 | exact tG95 | exact tG96 | exact tG100 | exact tG103 | exact tG111 | exact tG117 | exact tG121 | exact tG128 | exact tG134 | exact tG142 | exact tG145 | exact tG148) (by first | exact kd9) rfl rfl rfl (by assumption) rfl ?_; simp only [go_sem, reduceCtorEq, List.length_map, e1, hsub]) | (refine AX.mapUpdate rfl rfl (by first | exact tM65 | exact tM66) (by first | exact kd9) rfl rfl rfl (by assumption) rfl (by simp only [go_sem, reduceCtorEq, List.length_map, e1, hsub]) ?_; simp only [go_sem, reduceCtorEq, List.length_map, e1, hsub]) | (refine AX.makeMap rfl (by first | exact tM65 | exact tM66) rfl ?_; simp only [go_sem, reduceCtorEq, List.length_map, e1, hsub]) | (refine AX.lenMap rfl (by first | exact tM65 | exact tM66) rfl rfl rfl ?_; simp only [go_sem, reduceCtorEq, List.length_map, e1, hsub]) | (refine AX.range rfl (by first | exact tM65 | exact tM66) rfl rfl rfl ?_; simp only [go_sem, reduceCtorEq, List.length_map, e1, hsub]) | (refine AX.appendStr rfl (by first | exact tL22 | exact tL23 | exact tL25 | exact tL34 | exact tL36 | exact tL50 | exact tL100) (by simp only [go_sem]) (by simp only [go_sem]) (by simp only [go_sem]) rfl rfl rfl rfl (by simp only [go_sem, reduceCtorEq, List.length_map, e1, hsub]; first | omega | (simp; omega)) ?_; simp only [go_sem, reduceCtorEq, List.length_map, e1, hsub]) | (refine AX.shr rfl rfl rfl rfl (by first | decide | omega) ?_; simp only [go_sem, reduceCtorEq, List.length_map, e1, hsub]) | (refine AX.shl rfl rfl rfl rfl (by first | decide | omega) ?_; simp only [go_sem, reduceCtorEq, List.length_map, e1, hsub]) | (refine AX.bits rfl rfl rfl (by assumption) rfl ?_; simp only [go_sem, reduceCtorEq, List.length_map, e1, hsub]) | (refine AX.nilSl rfl (by first | exact tL22 | exact tL23 | exact tL25 | exact tL34 | exact tL36 | exact tL50 | exact tL100) (by first | exact .inl rfl | exact .inr rfl) rfl rfl rfl ?_; simp only [go_sem, reduceCtorEq, List.length_map, e1, hsub]))
      | ((show indepK _ _ _ _ = true ∧ _); refine And.intro (by kernel_rfl) ?_)
      | ((show _ ∧ _); refine And.intro (by first | omega | assumption | (simp only [go_sem]; omega) | (simp; omega) | (simp; done)) ?_)
      | (refine hK _ ?_; clear hK K)
      | (clear hK K; refine hK _ ?_; clear hK K)
      | (clear hK K; clear hK K; refine hK _ ?_; clear hK K)
      | (clear hK K; clear hK K; clear hK K; refine hK _ ?_; clear hK K)
      | fail)
    rw [hinv, hd]
    by_cases h5 : ys.length = i
    · rw [List.drop_eq_nil_of_le (by omega)]
      simp [cmpsG, sgn, show xs.length = ys.length by omega]
    · obtain ⟨x, _, _, h6⟩ := drop_at (show i < ys.length by omega)
      rw [h6]
      simp [cmpsG, sgn, show (xs.length : Int) - ys.length < 0 by omega]
  obtain ⟨⟨s, o⟩, hx, hm, hd⟩ := drop_at hlt
  have e1 : decide ((i : Int) < xs.length) = true := by simp; omega
  have hw := hw hlt
  by_cases hlt2 : i < ys.length
  rotate_left
  · have e2 : decide ((i : Int) < ys.length) = false := by simp; omega
    have hsub : IntKind.i64.wrap ((xs.length : Int) - ys.length) = (xs.length : Int) - ys.length := w64 (by omega) (by omega)
    clear hKL
    repeat' (first
      | ((show W _ _ _ _); first | (refine W.seq fun K hK => ?_) | refine W.block ?_ | (refine W.reg rfl ?_; simp only [go_sem, reduceCtorEq, List.length_map, e1, e2, hsub]) | (refine W.regD Try_mo rfl rfl ?_; simp only [go_sem, reduceCtorEq, List.length_map, e1, e2, hsub]) | (refine W.skip ?_; simp only [go_sem]) | (refine W.exit ?_; simp only [go_sem]) | (refine W.ret (Post.ret ?_); simp only [go_sem, reduceCtorEq, List.length_map, e1, e2, hsub]) | refine W.condT rfl ?_ | refine W.condF rfl ?_ | refine W.cond rfl (fun h => ?_) (fun h => ?_))
      | ((show AX _ _ _ _ _); first | (refine AX.pcall rfl rfl (by simp only [go_sem, unim_im]; rfl) (by solve_by_elim) rfl rfl ?_; simp only [go_sem, reduceCtorEq, List.length_map, e1, e2, hsub]) | (refine AX.pcallF rfl rfl (by simp only [go_sem, unim_im]; rfl) (by simp only [go_sem, unim_im]; rfl) (by solve_by_elim) rfl rfl ?_; simp only [go_sem, reduceCtorEq, List.length_map, e1, e2, hsub]) | (refine AX.lookup rfl (by first | exact tM65 | exact tM66) (by first | exact tG2 | exact tG3 | exact tG4 | exact tG5 | exact tG7 | exact tG9 | exact tG12 | exact tG13 | exact tG18 | exact tG19 | exact tG20 | exact tG21 | exact tG22 | exact tG23 | exact tG25 | exact tG26 | exact tG27 | exact tG34 | exact tG36 | exact tG37 | exact tG38 | exact tG46 | exact tG49 | exact tG50 | exact tG51 | exact tG58 | exact tG59 | exact tG65 | exact tG66 | exact tG69 | exact tG70 | exact tG72 | exact tG74 | exact tG75 | exact tG79 | exact tG80 | exact tG87 | exact tG90 | exact tG95 | exact tG96 | exact tG100 | exact tG103 | exact tG111 | exact tG117 | exact tG121 | exact tG128 | exact tG134 | exact tG142 | exact tG145 | exact tG148) (by first | exact kd9) rfl rfl rfl (by assumption) rfl ?_; simp only [go_sem, reduceCtorEq, List.length_map, e1, e2, hsub]) | (refine AX.mapUpdate rfl rfl (by first | exact tM65 | exact tM66) (by first | exact kd9) rfl rfl rfl (by assumption) rfl (by simp only [go_sem, reduceCtorEq, List.length_map, e1, e2, hsub]) ?_; simp only [go_sem, reduceCtorEq, List.length_map, e1, e2, hsub]) | (refine AX.makeMap rfl (by first | exact tM65 | exact tM66) rfl ?_; simp only [go_sem, reduceCtorEq, List.length_map, e1, e2, hsub]) | (refine AX.lenMap rfl (by first | exact tM65 | exact tM66) rfl rfl rfl ?_; simp only [go_sem, reduceCtorEq, List.length_map, e1, e2, hsub]) | (refine AX.range rfl (by first | exact tM65 | exact tM66) rfl rfl rfl ?_; simp only [go_sem, reduceCtorEq, List.length_map, e1, e2, hsub]) | (refine AX.appendStr rfl (by first | exact tL22 | exact tL23 | exact tL25 | exact tL34 | exact tL36 | exact tL50 | exact tL100) (by simp only [go_sem]) (by simp only [go_sem]) (by simp only [go_sem]) rfl rfl rfl rfl (by simp only [go_sem, reduceCtorEq, List.length_map, e1, e2, hsub]; first | omega | (simp; omega)) ?_; simp only [go_sem, reduceCtorEq, List.length_map, e1, e2, hsub]) | (refine AX.shr rfl rfl rfl rfl (by first | decide | omega) ?_; simp only [go_sem, reduceCtorEq, List.length_map, e1, e2, hsub]) | (refine AX.shl rfl rfl rfl rfl (by first | decide | omega) ?_; simp only [go_sem, reduceCtorEq, List.length_map, e1, e2, hsub]) | (refine AX.bits rfl rfl rfl (by assumption) rfl ?_; simp only [go_sem, reduceCtorEq, List.length_map, e1, e2, hsub]) | (refine AX.nilSl rfl (by first | exact tL22 | exact tL23 | exact tL25 | exact tL34 | exact tL36 | exact tL50 | exact tL100) (by first | exact .inl rfl | exact .inr rfl) rfl rfl rfl ?_; simp only [go_sem, reduceCtorEq, List.length_map, e1, e2, hsub]))
      | ((show indepK _ _ _ _ = true ∧ _); refine And.intro (by kernel_rfl) ?_)
      | ((show _ ∧ _); refine And.intro (by first | omega | assumption | (simp only [go_sem]; omega) | (simp; omega) | (simp; done)) ?_)
      | (refine hK _ ?_; clear hK K)
      | (clear hK K; refine hK _ ?_; clear hK K)
      | (clear hK K; clear hK K; refine hK _ ?_; clear hK K)
      | (clear hK K; clear hK K; clear hK K; refine hK _ ?_; clear hK K)
      | fail)
    rw [hinv, hd, List.drop_eq_nil_of_le (show ys.length ≤ i by omega)]
    simp [cmpsG, sgn, show ¬ (xs.length : Int) - ys.length < 0 by omega, show 0 < (xs.length : Int) - ys.length by omega]
    omega
  obtain ⟨⟨s', o'⟩, hx', hm', hd'⟩ := drop_at hlt2
  have e2 : decide ((i : Int) < ys.length) = true := by simp; omega
  rw [hd, hd', cmpsG, cmpN_split] at hinv
  by_cases h1 : cmpB s s' = 0
  rotate_left
  · have h1' : (cmpB s s' != 0) = true := by simp [h1]
    repeat' (first
      | ((show W _ _ _ _); first | (refine W.seq fun K hK => ?_) | refine W.block ?_ | (refine W.reg rfl ?_; simp only [go_sem, reduceCtorEq, List.getElem?_map, List.length_map, hx, hx', nmA, e1, e2, hw, h1']) | (refine W.regD Try_mo rfl rfl ?_; simp only [go_sem, reduceCtorEq, List.getElem?_map, List.length_map, hx, hx', nmA, e1, e2, hw, h1']) | (refine W.skip ?_; simp only [go_sem]) | (refine W.exit ?_; simp only [go_sem]) | (refine W.ret (Post.ret ?_); simp only [go_sem, reduceCtorEq, List.getElem?_map, List.length_map, hx, hx', nmA, e1, e2, hw, h1']) | refine W.condT rfl ?_ | refine W.condF rfl ?_ | refine W.cond rfl (fun h => ?_) (fun h => ?_))
      | ((show AX _ _ _ _ _); first | (refine AX.pcall rfl rfl (by simp only [go_sem, unim_im]; rfl) (by solve_by_elim) rfl rfl ?_; simp only [go_sem, reduceCtorEq, List.getElem?_map, List.length_map, hx, hx', nmA, e1, e2, hw, h1']) | (refine AX.pcallF rfl rfl (by simp only [go_sem, unim_im]; rfl) (by simp only [go_sem, unim_im]; rfl) (by solve_by_elim) rfl rfl ?_; simp only [go_sem, reduceCtorEq, List.getElem?_map, List.length_map, hx, hx', nmA, e1, e2, hw, h1']) | (refine AX.lookup rfl (by first | exact tM65 | exact tM66) (by first | exact tG2 | exact tG3 | exact tG4 | exact tG5 | exact tG7 | exact tG9 | exact tG12 | exact tG13 | exact tG18 | exact tG19 | exact tG20 | exact tG21 | exact tG22 | exact tG23 | exact tG25 | exact tG26 | exact tG27 | exact tG34 | exact tG36 | exact tG37 | exact tG38 | exact tG46 | exact tG49 | exact tG50 | exact tG51 | exact tG58 | exact tG59 | exact tG65 | exact tG66 | exact tG69 | exact tG70 | exact tG72 | exact tG74 | exact tG75 | exact tG79 | exact tG80 | exact tG87 | exact tG90 | exact tG95 | exact tG96 | exact tG100 | exact tG103 | exact tG111 | exact tG117 | exact tG121 | exact tG128 | exact tG134 | exact tG142 | exact tG145 | exact tG148) (by first | exact kd9) rfl rfl rfl (by assumption) rfl ?_; simp only [go_sem, reduceCtorEq, List.getElem?_map, List.length_map, hx, hx', nmA, e1, e2, hw, h1']) | (refine AX.mapUpdate rfl rfl (by first | exact tM65 | exact tM66) (by first | exact kd9) rfl rfl rfl (by assumption) rfl (by simp only [go_sem, reduceCtorEq, List.getElem?_map, List.length_map, hx, hx', nmA, e1, e2, hw, h1']) ?_; simp only [go_sem, reduceCtorEq, List.getElem?_map, List.length_map, hx, hx', nmA, e1, e2, hw, h1']) | (refine AX.makeMap rfl (by first | exact tM65 | exact tM66) rfl ?_; simp only [go_sem, reduceCtorEq, List.getElem?_map, List.length_map, hx, hx', nmA, e1, e2, hw, h1']) | (refine AX.lenMap rfl (by first | exact tM65 | exact tM66) rfl rfl rfl ?_; simp only [go_sem, reduceCtorEq, List.getElem?_map, List.length_map, hx, hx', nmA, e1, e2, hw, h1']) | (refine AX.range rfl (by first | exact tM65 | exact tM66) rfl rfl rfl ?_; simp only [go_sem, reduceCtorEq, List.getElem?_map, List.length_map, hx, hx', nmA, e1, e2, hw, h1']) | (refine AX.appendStr rfl (by first | exact tL22 | exact tL23 | exact tL25 | exact tL34 | exact tL36 | exact tL50 | exact tL100) (by simp only [go_sem]) (by simp only [go_sem]) (by simp only [go_sem]) rfl rfl rfl rfl (by simp only [go_sem, reduceCtorEq, List.getElem?_map, List.length_map, hx, hx', nmA, e1, e2, hw, h1']; first | omega | (simp; omega)) ?_; simp only [go_sem, reduceCtorEq, List.getElem?_map, List.length_map, hx, hx', nmA, e1, e2, hw, h1']) | (refine AX.shr rfl rfl rfl rfl (by first | decide | omega) ?_; simp only [go_sem, reduceCtorEq, List.getElem?_map, List.length_map, hx, hx', nmA, e1, e2, hw, h1']) | (refine AX.shl rfl rfl rfl rfl (by first | decide | omega) ?_; simp only [go_sem, reduceCtorEq, List.getElem?_map, List.length_map, hx, hx', nmA, e1, e2, hw, h1']) | (refine AX.bits rfl rfl rfl (by assumption) rfl ?_; simp only [go_sem, reduceCtorEq, List.getElem?_map, List.length_map, hx, hx', nmA, e1, e2, hw, h1']) | (refine AX.nilSl rfl (by first | exact tL22 | exact tL23 | exact tL25 | exact tL34 | exact tL36 | exact tL50 | exact tL100) (by first | exact .inl rfl | exact .inr rfl) rfl rfl rfl ?_; simp only [go_sem, reduceCtorEq, List.getElem?_map, List.length_map, hx, hx', nmA, e1, e2, hw, h1']))
      | ((show indepK _ _ _ _ = true ∧ _); refine And.intro (by kernel_rfl) ?_)
      | ((show _ ∧ _); refine And.intro (by first | omega | assumption | (simp only [go_sem]; omega) | (simp; omega) | (simp; done)) ?_)
      | (refine hK _ ?_; clear hK K)
      | (clear hK K; refine hK _ ?_; clear hK K)
      | (clear hK K; clear hK K; refine hK _ ?_; clear hK K)
      | (clear hK K; clear hK K; clear hK K; refine hK _ ?_; clear hK K)
      | fail)
    rw [hinv, if_pos h1]
  by_cases h2 : cmpB o o' = 0
  rotate_left
  · have h1' : (cmpB s s' != 0) = false := by simp [h1]
    have h2' : (cmpB o o' != 0) = true := by simp [h2]
    repeat' (first
      | ((show W _ _ _ _); first | (refine W.seq fun K hK => ?_) | refine W.block ?_ | (refine W.reg rfl ?_; simp only [go_sem, reduceCtorEq, List.getElem?_map, List.length_map, hx, hx', nmA, e1, e2, hw, h1', h2']) | (refine W.regD Try_mo rfl rfl ?_; simp only [go_sem, reduceCtorEq, List.getElem?_map, List.length_map, hx, hx', nmA, e1, e2, hw, h1', h2']) | (refine W.skip ?_; simp only [go_sem]) | (refine W.exit ?_; simp only [go_sem]) | (refine W.ret (Post.ret ?_); simp only [go_sem, reduceCtorEq, List.getElem?_map, List.length_map, hx, hx', nmA, e1, e2, hw, h1', h2']) | refine W.condT rfl ?_ | refine W.condF rfl ?_ | refine W.cond rfl (fun h => ?_) (fun h => ?_))
      | ((show AX _ _ _ _ _); first | (refine AX.pcall rfl rfl (by simp only [go_sem, unim_im]; rfl) (by solve_by_elim) rfl rfl ?_; simp only [go_sem, reduceCtorEq, List.getElem?_map, List.length_map, hx, hx', nmA, e1, e2, hw, h1', h2']) | (refine AX.pcallF rfl rfl (by simp only [go_sem, unim_im]; rfl) (by simp only [go_sem, unim_im]; rfl) (by solve_by_elim) rfl rfl ?_; simp only [go_sem, reduceCtorEq, List.getElem?_map, List.length_map, hx, hx', nmA, e1, e2, hw, h1', h2']) | (refine AX.lookup rfl (by first | exact tM65 | exact tM66) (by first | exact tG2 | exact tG3 | exact tG4 | exact tG5 | exact tG7 | exact tG9 | exact tG12 | exact tG13 | exact tG18 | exact tG19 | exact tG20 | exact tG21 | exact tG22 | exact tG23 | exact tG25 | exact tG26 | exact tG27 | exact tG34 | exact tG36 | exact tG37 | exact tG38 | exact tG46 | exact tG49 | exact tG50 | exact tG51 | exact tG58 | exact tG59 | exact tG65 | exact tG66 | exact tG69 | exact tG70 | exact tG72 | exact tG74 | exact tG75 | exact tG79 | exact tG80 | exact tG87 | exact tG90 | exact tG95 | exact tG96 | exact tG100 | exact tG103 | exact tG111 | exact tG117 | exact tG121 | exact tG128 | exact tG134 | exact tG142 | exact tG145 | exact tG148) (by first | exact kd9) rfl rfl rfl (by assumption) rfl ?_; simp only [go_sem, reduceCtorEq, List.getElem?_map, List.length_map, hx, hx', nmA, e1, e2, hw, h1', h2']) | (refine AX.mapUpdate rfl rfl (by first | exact tM65 | exact tM66) (by first | exact kd9) rfl rfl rfl (by assumption) rfl (by simp only [go_sem, reduceCtorEq, List.getElem?_map, List.length_map, hx, hx', nmA, e1, e2, hw, h1', h2']) ?_; simp only [go_sem, reduceCtorEq, List.getElem?_map, List.length_map, hx, hx', nmA, e1, e2, hw, h1', h2']) | (refine AX.makeMap rfl (by first | exact tM65 | exact tM66) rfl ?_; simp only [go_sem, reduceCtorEq, List.getElem?_map, List.length_map, hx, hx', nmA, e1, e2, hw, h1', h2']) | (refine AX.lenMap rfl (by first | exact tM65 | exact tM66) rfl rfl rfl ?_; simp only [go_sem, reduceCtorEq, List.getElem?_map, List.length_map, hx, hx', nmA, e1, e2, hw, h1', h2']) | (refine AX.range rfl (by first | exact tM65 | exact tM66) rfl rfl rfl ?_; simp only [go_sem, reduceCtorEq, List.getElem?_map, List.length_map, hx, hx', nmA, e1, e2, hw, h1', h2']) | (refine AX.appendStr rfl (by first | exact tL22 | exact tL23 | exact tL25 | exact tL34 | exact tL36 | exact tL50 | exact tL100) (by simp only [go_sem]) (by simp only [go_sem]) (by simp only [go_sem]) rfl rfl rfl rfl (by simp only [go_sem, reduceCtorEq, List.getElem?_map, List.length_map, hx, hx', nmA, e1, e2, hw, h1', h2']; first | omega | (simp; omega)) ?_; simp only [go_sem, reduceCtorEq, List.getElem?_map, List.length_map, hx, hx', nmA, e1, e2, hw, h1', h2']) | (refine AX.shr rfl rfl rfl rfl (by first | decide | omega) ?_; simp only [go_sem, reduceCtorEq, List.getElem?_map, List.length_map, hx, hx', nmA, e1, e2, hw, h1', h2']) | (refine AX.shl rfl rfl rfl rfl (by first | decide | omega) ?_; simp only [go_sem, reduceCtorEq, List.getElem?_map, List.length_map, hx, hx', nmA, e1, e2, hw, h1', h2']) | (refine AX.bits rfl rfl rfl (by assumption) rfl ?_; simp only [go_sem, reduceCtorEq, List.getElem?_map, List.length_map, hx, hx', nmA, e1, e2, hw, h1', h2']) | (refine AX.nilSl rfl (by first | exact tL22 | exact tL23 | exact tL25 | exact tL34 | exact tL36 | exact tL50 | exact tL100) (by first | exact .inl rfl | exact .inr rfl) rfl rfl rfl ?_; simp only [go_sem, reduceCtorEq, List.getElem?_map, List.length_map, hx, hx', nmA, e1, e2, hw, h1', h2']))
      | ((show indepK _ _ _ _ = true ∧ _); refine And.intro (by kernel_rfl) ?_)
      | ((show _ ∧ _); refine And.intro (by first | omega | assumption | (simp only [go_sem]; omega) | (simp; omega) | (simp; done)) ?_)
      | (refine hK _ ?_; clear hK K)
      | (clear hK K; refine hK _ ?_; clear hK K)
      | (clear hK K; clear hK K; refine hK _ ?_; clear hK K)
      | (clear hK K; clear hK K; clear hK K; refine hK _ ?_; clear hK K)
      | fail)
    rw [hinv, if_neg (by simpa using h1), if_pos h2]
  have h1' : (cmpB s s' != 0) = false := by simp [h1]
  have h2' : (cmpB o o' != 0) = false := by simp [h2]
  repeat' (first
    | ((show W _ _ _ _); first | (refine W.seq fun K hK => ?_) | refine W.block ?_ | (refine W.reg rfl ?_; simp only [go_sem, reduceCtorEq, List.getElem?_map, List.length_map, hx, hx', nmA, e1, e2, hw, h1', h2']) | (refine W.regD Try_mo rfl rfl ?_; simp only [go_sem, reduceCtorEq, List.getElem?_map, List.length_map, hx, hx', nmA, e1, e2, hw, h1', h2']) | (refine W.skip ?_; simp only [go_sem]) | (refine W.exit ?_; simp only [go_sem]) | (refine W.ret (Post.ret ?_); simp only [go_sem, reduceCtorEq, List.getElem?_map, List.length_map, hx, hx', nmA, e1, e2, hw, h1', h2']) | refine W.condT rfl ?_ | refine W.condF rfl ?_ | refine W.cond rfl (fun h => ?_) (fun h => ?_))
    | ((show AX _ _ _ _ _); first | (refine AX.pcall rfl rfl (by simp only [go_sem, unim_im]; rfl) (by solve_by_elim) rfl rfl ?_; simp only [go_sem, reduceCtorEq, List.getElem?_map, List.length_map, hx, hx', nmA, e1, e2, hw, h1', h2']) | (refine AX.pcallF rfl rfl (by simp only [go_sem, unim_im]; rfl) (by simp only [go_sem, unim_im]; rfl) (by solve_by_elim) rfl rfl ?_; simp only [go_sem, reduceCtorEq, List.getElem?_map, List.length_map, hx, hx', nmA, e1, e2, hw, h1', h2']) | (refine AX.lookup rfl (by first | exact tM65 | exact tM66) (by first | exact tG2 | exact tG3 | exact tG4 | exact tG5 | exact tG7 | exact tG9 | exact tG12 | exact tG13 | exact tG18 | exact tG19 | exact tG20 | exact tG21 | exact tG22 | exact tG23 | exact tG25 | exact tG26 | exact tG27 | exact tG34 | exact tG36 | exact tG37 | exact tG38 | exact tG46 | exact tG49 | exact tG50 | exact tG51 | exact tG58 | exact tG59 | exact tG65 | exact tG66 | exact tG69 | exact tG70 | exact tG72 | exact tG74 | exact tG75 | exact tG79 | exact tG80 | exact tG87 | exact tG90 | exact tG95 | exact tG96 | exact tG100 | exact tG103 | exact tG111 | exact tG117 | exact tG121 | exact tG128 | exact tG134 | exact tG142 | exact tG145 | exact tG148) (by first | exact kd9) rfl rfl rfl (by assumption) rfl ?_; simp only [go_sem, reduceCtorEq, List.getElem?_map, List.length_map, hx, hx', nmA, e1, e2, hw, h1', h2']) | (refine AX.mapUpdate rfl rfl (by first | exact tM65 | exact tM66) (by first | exact kd9) rfl rfl rfl (by assumption) rfl (by simp only [go_sem, reduceCtorEq, List.getElem?_map, List.length_map, hx, hx', nmA, e1, e2, hw, h1', h2']) ?_; simp only [go_sem, reduceCtorEq, List.getElem?_map, List.length_map, hx, hx', nmA, e1, e2, hw, h1', h2']) | (refine AX.makeMap rfl (by first | exact tM65 | exact tM66) rfl ?_; simp only [go_sem, reduceCtorEq, List.getElem?_map, List.length_map, hx, hx', nmA, e1, e2, hw, h1', h2']) | (refine AX.lenMap rfl (by first | exact tM65 | exact tM66) rfl rfl rfl ?_; simp only [go_sem, reduceCtorEq, List.getElem?_map, List.length_map, hx, hx', nmA, e1, e2, hw, h1', h2']) | (refine AX.range rfl (by first | exact tM65 | exact tM66) rfl rfl rfl ?_; simp only [go_sem, reduceCtorEq, List.getElem?_map, List.length_map, hx, hx', nmA, e1, e2, hw, h1', h2']) | (refine AX.appendStr rfl (by first | exact tL22 | exact tL23 | exact tL25 | exact tL34 | exact tL36 | exact tL50 | exact tL100) (by simp only [go_sem]) (by simp only [go_sem]) (by simp only [go_sem]) rfl rfl rfl rfl (by simp only [go_sem, reduceCtorEq, List.getElem?_map, List.length_map, hx, hx', nmA, e1, e2, hw, h1', h2']; first | omega | (simp; omega)) ?_; simp only [go_sem, reduceCtorEq, List.getElem?_map, List.length_map, hx, hx', nmA, e1, e2, hw, h1', h2']) | (refine AX.shr rfl rfl rfl rfl (by first | decide | omega) ?_; simp only [go_sem, reduceCtorEq, List.getElem?_map, List.length_map, hx, hx', nmA, e1, e2, hw, h1', h2']) | (refine AX.shl rfl rfl rfl rfl (by first | decide | omega) ?_; simp only [go_sem, reduceCtorEq, List.getElem?_map, List.length_map, hx, hx', nmA, e1, e2, hw, h1', h2']) | (refine AX.bits rfl rfl rfl (by assumption) rfl ?_; simp only [go_sem, reduceCtorEq, List.getElem?_map, List.length_map, hx, hx', nmA, e1, e2, hw, h1', h2']) | (refine AX.nilSl rfl (by first | exact tL22 | exact tL23 | exact tL25 | exact tL34 | exact tL36 | exact tL50 | exact tL100) (by first | exact .inl rfl | exact .inr rfl) rfl rfl rfl ?_; simp only [go_sem, reduceCtorEq, List.getElem?_map, List.length_map, hx, hx', nmA, e1, e2, hw, h1', h2']))
    | ((show indepK _ _ _ _ = true ∧ _); refine And.intro (by kernel_rfl) ?_)
    | ((show _ ∧ _); refine And.intro (by first | omega | assumption | (simp only [go_sem]; omega) | (simp; omega) | (simp; done)) ?_)
    | (refine hK _ ?_; clear hK K)
    | (clear hK K; refine hK _ ?_; clear hK K)
    | (clear hK K; clear hK K; refine hK _ ?_; clear hK K)
    | (clear hK K; clear hK K; clear hK K; refine hK _ ?_; clear hK K)
    | fail)
  refine hKL.to (i + 1) ⟨by omega, by omega, ?_⟩ (by omega) (Fits.fit [] [0, 1, 4, 5] 0 rfl rfl ?_)
  · rw [hinv, if_neg (by simpa using h1), if_neg (by simpa using h2)]
  · simp only [go_sem]
    exact Fits.rfl
theorem withD_at {p : List Nm} {b : Int} {l : List Dl} {k : Nat} {d : Dl} (hx : l[k]? = some d) (h : cmpPath d.1 p < 0) : l.take k ++ withD p b (l.drop k) = l.take (k + 1) ++ withD p b (l.drop (k + 1)) := by
  have hl := (List.getElem?_eq_some_iff.1 hx).1
  have hd : l.drop k = d :: l.drop (k + 1) := by
    rw [List.drop_eq_getElem_cons hl, (List.getElem?_eq_some_iff.1 hx).2]
  rw [hd, withD, if_pos h, take_at hx, List.append_assoc]
  rfl
theorem withD_stop {p : List Nm} {b : Int} {l : List Dl} {k : Nat} {d : Dl} (hx : l[k]? = some d) (h : ¬ cmpPath d.1 p < 0) : withD p b (l.drop k) = if cmpPath d.1 p = 0 then (if IntKind.i64.wrap (b + d.2) ≠ 0 then (p, IntKind.i64.wrap (b + d.2)) :: l.drop (k + 1) else l.drop (k + 1)) else (if b ≠ 0 then (p, b) :: l.drop k else l.drop k) := by
  have hl := (List.getElem?_eq_some_iff.1 hx).1
  have hd : l.drop k = d :: l.drop (k + 1) := by
    rw [List.drop_eq_getElem_cons hl, (List.getElem?_eq_some_iff.1 hx).2]
  rw [hd, withD, if_neg h]
theorem imR_join (a b : List (List AV)) : unim (imR a ++ imR b) = some (a ++ b) := by rw [← imR_app, unim_im]
theorem with_c (l : List Dl) (p : List Nm) (b : Int) (hl : (l.length + 1) * 32 ≤ 140737488355328) : PCall Try.prog 22 [lsT l, .c (.im (.sl 59 (p.map nmA))), ft (.int .i64 b)] (lsT (withD p b l)) := by
  simp only [lsT]
  refine PCall.intro (nt := 68) (rs := [.tmp 6]) Try.func22 rfl ⟨by kernel_rfl, by kernel_rfl, by kernel_rfl⟩ (by simp) ?_
  rintro ⟨P, w0, ok0, may, np, pblk⟩ rfl rfl
  refine W.lenB 0 rfl tE38 fun hlen hbytes => ?_
  refine W.lenB 1 rfl tE59 fun hlen' hbytes' => ?_
  rw [List.length_map] at hbytes hbytes'
  rw [List.length_map, maxLen_is] at hlen
  have hbl : ∀ i, ((List.take i (l.map dlA)).length + 1) * 32 ≤ 140737488355328 := fun i => by rw [List.length_take, List.length_map]; omega
  have hbl2 : ∀ i, (((List.take i (l.map dlA)).length + 1) + (List.drop i (l.map dlA)).length) * 32 ≤ 140737488355328 := fun i => by rw [List.length_take, List.length_drop, List.length_map]; omega
  repeat' (first
    | ((show W _ _ _ _); first | (refine W.seq fun K hK => ?_) | refine W.block ?_ | (refine W.reg rfl ?_; simp only [go_sem, reduceCtorEq]) | (refine W.regD Try_mo rfl rfl ?_; simp only [go_sem, reduceCtorEq]) | (refine W.skip ?_; simp only [go_sem]) | (refine W.exit ?_; simp only [go_sem]) | (refine W.ret (Post.ret ?_); simp only [go_sem, reduceCtorEq]) | refine W.condT rfl ?_ | refine W.condF rfl ?_ | refine W.cond rfl (fun h => ?_) (fun h => ?_))
    | ((show AX _ _ _ _ _); first | (refine AX.pcall rfl rfl (by simp only [go_sem, unim_im]; rfl) (by solve_by_elim) rfl rfl ?_; simp only [go_sem, reduceCtorEq]) | (refine AX.pcallF rfl rfl (by simp only [go_sem, unim_im]; rfl) (by simp only [go_sem, unim_im]; rfl) (by solve_by_elim) rfl rfl ?_; simp only [go_sem, reduceCtorEq]) | (refine AX.lookup rfl (by first | exact tM65 | exact tM66) (by first | exact tG2 | exact tG3 | exact tG4 | exact tG5 | exact tG7 | exact tG9 | exact tG12 | exact tG13 | exact tG18 | exact tG19 | exact tG20 | exact tG21 | exact tG22 | exact tG23 | exact tG25 | exact tG26 | exact tG27 | exact tG34 | exact tG36 | exact tG37 | exact tG38 | exact tG46 | exact tG49 | exact tG50 | exact tG51 | exact tG58 | exact tG59 | exact tG65 | exact tG66 | exact tG69 | exact tG70 | exact tG72 | exact tG74 | exact tG75 | exact tG79 | exact tG80 | exact tG87 | exact tG90 | exact tG95 | exact tG96 | exact tG100 | exact tG103 | exact tG111 | exact tG117 | exact tG121 | exact tG128 | exact tG134 | exact tG142 | exact tG145 | exact tG148) (by first | exact kd9) rfl rfl rfl (by assumption) rfl ?_; simp only [go_sem, reduceCtorEq]) | (refine AX.mapUpdate rfl rfl (by first | exact tM65 | exact tM66) (by first | exact kd9) rfl rfl rfl (by assumption) rfl (by simp only [go_sem, reduceCtorEq]) ?_; simp only [go_sem, reduceCtorEq]) | (refine AX.makeMap rfl (by first | exact tM65 | exact tM66) rfl ?_; simp only [go_sem, reduceCtorEq]) | (refine AX.lenMap rfl (by first | exact tM65 | exact tM66) rfl rfl rfl ?_; simp only [go_sem, reduceCtorEq]) | (refine AX.range rfl (by first | exact tM65 | exact tM66) rfl rfl rfl ?_; simp only [go_sem, reduceCtorEq]) | (refine AX.appendStr rfl (by first | exact tL22 | exact tL23 | exact tL25 | exact tL34 | exact tL36 | exact tL50 | exact tL100) (by simp only [go_sem]) (by simp only [go_sem]) (by simp only [go_sem]) rfl rfl rfl rfl (by simp only [go_sem, reduceCtorEq]; first | omega | (simp; omega)) ?_; simp only [go_sem, reduceCtorEq]) | (refine AX.shr rfl rfl rfl rfl (by first | decide | omega) ?_; simp only [go_sem, reduceCtorEq]) | (refine AX.shl rfl rfl rfl rfl (by first | decide | omega) ?_; simp only [go_sem, reduceCtorEq]) | (refine AX.bits rfl rfl rfl (by assumption) rfl ?_; simp only [go_sem, reduceCtorEq]) | (refine AX.nilSl rfl (by first | exact tL22 | exact tL23 | exact tL25 | exact tL34 | exact tL36 | exact tL50 | exact tL100) (by first | exact .inl rfl | exact .inr rfl) rfl rfl rfl ?_; simp only [go_sem, reduceCtorEq]))
    | ((show indepK _ _ _ _ = true ∧ _); refine And.intro (by kernel_rfl) ?_)
    | ((show _ ∧ _); refine And.intro (by first | omega | assumption | (simp only [go_sem]; omega) | (simp; omega) | (simp; done)) ?_)
    | (refine hK _ ?_; clear hK K)
    | (clear hK K; refine hK _ ?_; clear hK K)
    | (clear hK K; clear hK K; refine hK _ ?_; clear hK K)
    | (clear hK K; clear hK K; clear hK K; refine hK _ ?_; clear hK K)
    | fail)
  have hK2 : ∀ i : Nat, i ≤ l.length → withD p b l = l.take i ++ withD p b (l.drop i) → (∀ d, l[i]? = some d → ¬ cmpPath d.1 p < 0) → ∀ s1 : St, Fits ⟨Try.prog, w0, ok0, may, 0, pblk⟩ s1 { t := [(0, .c (.im (.sl 38 (l.map dlA)))), (1, .c (.im (.sl 59 (p.map nmA)))), (2, ft (.int .i64 b)), (6, ft (.slice none 0 0)), (7, ft (.int .i64 (i : Nat)))], h := [], nx := 0, ex := [], nt := 68 } → K s1 := by
    intro i hi hinv hge s1 hf
    refine hK _ (W.fits hf ?_); clear hK K
    have f1 : decide (i ≤ l.length) = true := by simp; omega
    have f3 : List.take l.length (l.map dlA) = l.map dlA := List.take_of_length_le (by simp)
    have f4 : decide (l.length ≤ l.length) = true := by simp
    by_cases hlt : i < l.length
    rotate_left
    · have e1 : decide ((i : Int) < l.length) = false := by simp; omega
      have hd : l.drop i = [] := List.drop_eq_nil_of_le (by omega)
      have hd2 : (l.map dlA).drop i = [] := List.drop_eq_nil_of_le (by simp; omega)
      rw [hd] at hinv
      by_cases hb : b = 0
      · have e2 : (b != 0) = false := by simp [hb]
        repeat' (first
          | ((show W _ _ _ _); first | (refine W.seq fun K hK => ?_) | refine W.block ?_ | (refine W.reg rfl ?_; simp only [go_sem, reduceCtorEq, List.length_map, List.length_append, List.length_cons, List.length_nil, e1, e2, f1, f3, f4, hd2]) | (refine W.regD Try_mo rfl rfl ?_; simp only [go_sem, reduceCtorEq, List.length_map, List.length_append, List.length_cons, List.length_nil, e1, e2, f1, f3, f4, hd2]) | (refine W.skip ?_; simp only [go_sem]) | (refine W.exit ?_; simp only [go_sem]) | (refine W.ret (Post.ret ?_); simp only [go_sem, reduceCtorEq, List.length_map, List.length_append, List.length_cons, List.length_nil, e1, e2, f1, f3, f4, hd2]) | refine W.condT rfl ?_ | refine W.condF rfl ?_ | refine W.cond rfl (fun h => ?_) (fun h => ?_))
          | ((show AX _ _ _ _ _); first | (refine AX.pcall rfl rfl (by simp only [go_sem, unim_im]; rfl) (by solve_by_elim) rfl rfl ?_; simp only [go_sem, reduceCtorEq, List.length_map, List.length_append, List.length_cons, List.length_nil, e1, e2, f1, f3, f4, hd2]) | (refine AX.pcallF rfl rfl (by simp only [go_sem, unim_im]; rfl) (by simp only [go_sem, unim_im]; rfl) (by solve_by_elim) rfl rfl ?_; simp only [go_sem, reduceCtorEq, List.length_map, List.length_append, List.length_cons, List.length_nil, e1, e2, f1, f3, f4, hd2]) | (refine AX.lookup rfl (by first | exact tM65 | exact tM66) (by first | exact tG2 | exact tG3 | exact tG4 | exact tG5 | exact tG7 | exact tG9 | exact tG12 | exact tG13 | exact tG18 | exact tG19 | exact tG20 | exact tG21 | exact tG22 | exact tG23 | exact tG25 | exact tG26 | exact tG27 | exact tG34 | exact tG36 | exact tG37 | exact tG38 | exact tG46 | exact tG49 | exact tG50 | exact tG51 | exact tG58 | exact tG59 | exact tG65 | exact tG66 | exact tG69 | exact tG70 | exact tG72 | exact tG74 | exact tG75 | exact tG79 | exact tG80 | exact tG87 | exact tG90 | exact tG95 | exact tG96 | exact tG100 | exact tG103 | exact tG111 | exact tG117 | exact tG121 | exact tG128 | exact tG134 | exact tG142 | exact tG145 | exact tG148) (by first | exact kd9) rfl rfl rfl (by assumption) rfl ?_; simp only [go_sem, reduceCtorEq, List.length_map, List.length_append, List.length_cons, List.length_nil, e1, e2, f1, f3, f4, hd2]) | (refine AX.mapUpdate rfl rfl (by first | exact tM65 | exact tM66) (by first | exact kd9) rfl rfl rfl (by assumption) rfl (by simp only [go_sem, reduceCtorEq, List.length_map, List.length_append, List.length_cons, List.length_nil, e1, e2, f1, f3, f4, hd2]) ?_; simp only [go_sem, reduceCtorEq, List.length_map, List.length_append, List.length_cons, List.length_nil, e1, e2, f1, f3, f4, hd2]) | (refine AX.makeMap rfl (by first | exact tM65 | exact tM66) rfl ?_; simp only [go_sem, reduceCtorEq, List.length_map, List.length_append, List.length_cons, List.length_nil, e1, e2, f1, f3, f4, hd2]) | (refine AX.lenMap rfl (by first | exact tM65 | exact tM66) rfl rfl rfl ?_; simp only [go_sem, reduceCtorEq, List.length_map, List.length_append, List.length_cons, List.length_nil, e1, e2, f1, f3, f4, hd2]) | (refine AX.range rfl (by first | exact tM65 | exact tM66) rfl rfl rfl ?_; simp only [go_sem, reduceCtorEq, List.length_map, List.length_append, List.length_cons, List.length_nil, e1, e2, f1, f3, f4, hd2]) | (refine AX.appendStr rfl (by first | exact tL22 | exact tL23 | exact tL25 | exact tL34 | exact tL36 | exact tL50 | exact tL100) (by simp only [go_sem]) (by simp only [go_sem]) (by simp only [go_sem]) rfl rfl rfl rfl (by simp only [go_sem, reduceCtorEq, List.length_map, List.length_append, List.length_cons, List.length_nil, e1, e2, f1, f3, f4, hd2]; first | omega | (simp; omega)) ?_; simp only [go_sem, reduceCtorEq, List.length_map, List.length_append, List.length_cons, List.length_nil, e1, e2, f1, f3, f4, hd2]) | (refine AX.shr rfl rfl rfl rfl (by first | decide | omega) ?_; simp only [go_sem, reduceCtorEq, List.length_map, List.length_append, List.length_cons, List.length_nil, e1, e2, f1, f3, f4, hd2]) | (refine AX.shl rfl rfl rfl rfl (by first | decide | omega) ?_; simp only [go_sem, reduceCtorEq, List.length_map, List.length_append, List.length_cons, List.length_nil, e1, e2, f1, f3, f4, hd2]) | (refine AX.bits rfl rfl rfl (by assumption) rfl ?_; simp only [go_sem, reduceCtorEq, List.length_map, List.length_append, List.length_cons, List.length_nil, e1, e2, f1, f3, f4, hd2]) | (refine AX.nilSl rfl (by first | exact tL22 | exact tL23 | exact tL25 | exact tL34 | exact tL36 | exact tL50 | exact tL100) (by first | exact .inl rfl | exact .inr rfl) rfl rfl rfl ?_; simp only [go_sem, reduceCtorEq, List.length_map, List.length_append, List.length_cons, List.length_nil, e1, e2, f1, f3, f4, hd2]))
          | ((show indepK _ _ _ _ = true ∧ _); refine And.intro (by kernel_rfl) ?_)
          | ((show _ ∧ _); refine And.intro (by first | omega | assumption | (simp only [go_sem]; omega) | (simp; omega) | (simp; done)) ?_)
          | (refine hK _ ?_; clear hK K)
          | (clear hK K; refine hK _ ?_; clear hK K)
          | (clear hK K; clear hK K; refine hK _ ?_; clear hK K)
          | (clear hK K; clear hK K; clear hK K; refine hK _ ?_; clear hK K)
          | fail)
        rw [hb] at hinv
        simp [hinv, withD, hb, imR_nil, unim_im]
      · have e2 : (b != 0) = true := by simp [hb]
        repeat' (first
          | ((show W _ _ _ _); first | refine W.stop (id := 10) ?_ | (refine W.seq fun K hK => ?_) | refine W.block ?_ | (refine W.reg rfl ?_; simp only [go_sem, reduceCtorEq, List.length_map, List.length_append, List.length_cons, List.length_nil, e1, e2, f1, f3, f4, hd2]) | (refine W.regD Try_mo rfl rfl ?_; simp only [go_sem, reduceCtorEq, List.length_map, List.length_append, List.length_cons, List.length_nil, e1, e2, f1, f3, f4, hd2]) | (refine W.skip ?_; simp only [go_sem]) | (refine W.exit ?_; simp only [go_sem]) | (refine W.ret (Post.ret ?_); simp only [go_sem, reduceCtorEq, List.length_map, List.length_append, List.length_cons, List.length_nil, e1, e2, f1, f3, f4, hd2]) | refine W.condT rfl ?_ | refine W.condF rfl ?_ | refine W.cond rfl (fun h => ?_) (fun h => ?_))
          | ((show AX _ _ _ _ _); first | (refine AX.pcall rfl rfl (by simp only [go_sem, unim_im]; rfl) (by solve_by_elim) rfl rfl ?_; simp only [go_sem, reduceCtorEq, List.length_map, List.length_append, List.length_cons, List.length_nil, e1, e2, f1, f3, f4, hd2]) | (refine AX.pcallF rfl rfl (by simp only [go_sem, unim_im]; rfl) (by simp only [go_sem, unim_im]; rfl) (by solve_by_elim) rfl rfl ?_; simp only [go_sem, reduceCtorEq, List.length_map, List.length_append, List.length_cons, List.length_nil, e1, e2, f1, f3, f4, hd2]) | (refine AX.lookup rfl (by first | exact tM65 | exact tM66) (by first | exact tG2 | exact tG3 | exact tG4 | exact tG5 | exact tG7 | exact tG9 | exact tG12 | exact tG13 | exact tG18 | exact tG19 | exact tG20 | exact tG21 | exact tG22 | exact tG23 | exact tG25 | exact tG26 | exact tG27 | exact tG34 | exact tG36 | exact tG37 | exact tG38 | exact tG46 | exact tG49 | exact tG50 | exact tG51 | exact tG58 | exact tG59 | exact tG65 | exact tG66 | exact tG69 | exact tG70 | exact tG72 | exact tG74 | exact tG75 | exact tG79 | exact tG80 | exact tG87 | exact tG90 | exact tG95 | exact tG96 | exact tG100 | exact tG103 | exact tG111 | exact tG117 | exact tG121 | exact tG128 | exact tG134 | exact tG142 | exact tG145 | exact tG148) (by first | exact kd9) rfl rfl rfl (by assumption) rfl ?_; simp only [go_sem, reduceCtorEq, List.length_map, List.length_append, List.length_cons, List.length_nil, e1, e2, f1, f3, f4, hd2]) | (refine AX.mapUpdate rfl rfl (by first | exact tM65 | exact tM66) (by first | exact kd9) rfl rfl rfl (by assumption) rfl (by simp only [go_sem, reduceCtorEq, List.length_map, List.length_append, List.length_cons, List.length_nil, e1, e2, f1, f3, f4, hd2]) ?_; simp only [go_sem, reduceCtorEq, List.length_map, List.length_append, List.length_cons, List.length_nil, e1, e2, f1, f3, f4, hd2]) | (refine AX.makeMap rfl (by first | exact tM65 | exact tM66) rfl ?_; simp only [go_sem, reduceCtorEq, List.length_map, List.length_append, List.length_cons, List.length_nil, e1, e2, f1, f3, f4, hd2]) | (refine AX.lenMap rfl (by first | exact tM65 | exact tM66) rfl rfl rfl ?_; simp only [go_sem, reduceCtorEq, List.length_map, List.length_append, List.length_cons, List.length_nil, e1, e2, f1, f3, f4, hd2]) | (refine AX.range rfl (by first | exact tM65 | exact tM66) rfl rfl rfl ?_; simp only [go_sem, reduceCtorEq, List.length_map, List.length_append, List.length_cons, List.length_nil, e1, e2, f1, f3, f4, hd2]) | (refine AX.appendStr rfl (by first | exact tL22 | exact tL23 | exact tL25 | exact tL34 | exact tL36 | exact tL50 | exact tL100) (by simp only [go_sem]) (by simp only [go_sem]) (by simp only [go_sem]) rfl rfl rfl rfl (by simp only [go_sem, reduceCtorEq, List.length_map, List.length_append, List.length_cons, List.length_nil, e1, e2, f1, f3, f4, hd2]; first | omega | (simp; omega)) ?_; simp only [go_sem, reduceCtorEq, List.length_map, List.length_append, List.length_cons, List.length_nil, e1, e2, f1, f3, f4, hd2]) | (refine AX.shr rfl rfl rfl rfl (by first | decide | omega) ?_; simp only [go_sem, reduceCtorEq, List.length_map, List.length_append, List.length_cons, List.length_nil, e1, e2, f1, f3, f4, hd2]) | (refine AX.shl rfl rfl rfl rfl (by first | decide | omega) ?_; simp only [go_sem, reduceCtorEq, List.length_map, List.length_append, List.length_cons, List.length_nil, e1, e2, f1, f3, f4, hd2]) | (refine AX.bits rfl rfl rfl (by assumption) rfl ?_; simp only [go_sem, reduceCtorEq, List.length_map, List.length_append, List.length_cons, List.length_nil, e1, e2, f1, f3, f4, hd2]) | (refine AX.nilSl rfl (by first | exact tL22 | exact tL23 | exact tL25 | exact tL34 | exact tL36 | exact tL50 | exact tL100) (by first | exact .inl rfl | exact .inr rfl) rfl rfl rfl ?_; simp only [go_sem, reduceCtorEq, List.length_map, List.length_append, List.length_cons, List.length_nil, e1, e2, f1, f3, f4, hd2]))
          | ((show indepK _ _ _ _ = true ∧ _); refine And.intro (by kernel_rfl) ?_)
          | ((show _ ∧ _); refine And.intro (by first | omega | assumption | (simp only [go_sem]; omega) | (simp; omega) | (simp; done)) ?_)
          | (refine hK _ ?_; clear hK K)
          | (clear hK K; refine hK _ ?_; clear hK K)
          | (clear hK K; clear hK K; refine hK _ ?_; clear hK K)
          | (clear hK K; clear hK K; clear hK K; refine hK _ ?_; clear hK K)
          | fail)
        refine Stop.out ?_
        refine W.fits (s' := { t := [(0, .c (.im (.sl 38 (l.map dlA)))), (7, ft (.int .i64 (i : Nat))), (8, .c (.ref 0))], h := [(0, .row 38 (imR ((l.take i).map dlA ++ [dlA (p, b)])))], nx := 1, ex := [], nt := 68 }) (Fits.freeze 25 rfl (unim_im _) ?_) ?_
        · simp only [go_sem]
          refine Fits.seeO 29 25 rfl rfl ?_
          simp only [go_sem]
          refine Fits.fit [(29, 0)] [0, 7, 8] 1 rfl rfl ?_
          simp only [go_sem, imR_sn2, dlA, List.map_take]
          exact Fits.rfl
        repeat' (first
          | ((show W _ _ _ _); first | (refine W.seq fun K hK => ?_) | refine W.block ?_ | (refine W.reg rfl ?_; simp only [go_sem, reduceCtorEq, List.length_map, List.length_append, List.length_cons, List.length_nil, e1, e2, f1, f3, f4, hd2]) | (refine W.regD Try_mo rfl rfl ?_; simp only [go_sem, reduceCtorEq, List.length_map, List.length_append, List.length_cons, List.length_nil, e1, e2, f1, f3, f4, hd2]) | (refine W.skip ?_; simp only [go_sem]) | (refine W.exit ?_; simp only [go_sem]) | (refine W.ret (Post.ret ?_); simp only [go_sem, reduceCtorEq, List.length_map, List.length_append, List.length_cons, List.length_nil, e1, e2, f1, f3, f4, hd2]) | refine W.condT rfl ?_ | refine W.condF rfl ?_ | refine W.cond rfl (fun h => ?_) (fun h => ?_))
          | ((show AX _ _ _ _ _); first | (refine AX.pcall rfl rfl (by simp only [go_sem, unim_im]; rfl) (by solve_by_elim) rfl rfl ?_; simp only [go_sem, reduceCtorEq, List.length_map, List.length_append, List.length_cons, List.length_nil, e1, e2, f1, f3, f4, hd2]) | (refine AX.pcallF rfl rfl (by simp only [go_sem, unim_im]; rfl) (by simp only [go_sem, unim_im]; rfl) (by solve_by_elim) rfl rfl ?_; simp only [go_sem, reduceCtorEq, List.length_map, List.length_append, List.length_cons, List.length_nil, e1, e2, f1, f3, f4, hd2]) | (refine AX.lookup rfl (by first | exact tM65 | exact tM66) (by first | exact tG2 | exact tG3 | exact tG4 | exact tG5 | exact tG7 | exact tG9 | exact tG12 | exact tG13 | exact tG18 | exact tG19 | exact tG20 | exact tG21 | exact tG22 | exact tG23 | exact tG25 | exact tG26 | exact tG27 | exact tG34 | exact tG36 | exact tG37 | exact tG38 | exact tG46 | exact tG49 | exact tG50 | exact tG51 | exact tG58 | exact tG59 | exact tG65 | exact tG66 | exact tG69 | exact tG70 | exact tG72 | exact tG74 | exact tG75 | exact tG79 | exact tG80 | exact tG87 | exact tG90 | exact tG95 | exact tG96 | exact tG100 | exact tG103 | exact tG111 | exact tG117 | exact tG121 | exact tG128 | exact tG134 | exact tG142 | exact tG145 | exact tG148) (by first | exact kd9) rfl rfl rfl (by assumption) rfl ?_; simp only [go_sem, reduceCtorEq, List.length_map, List.length_append, List.length_cons, List.length_nil, e1, e2, f1, f3, f4, hd2]) | (refine AX.mapUpdate rfl rfl (by first | exact tM65 | exact tM66) (by first | exact kd9) rfl rfl rfl (by assumption) rfl (by simp only [go_sem, reduceCtorEq, List.length_map, List.length_append, List.length_cons, List.length_nil, e1, e2, f1, f3, f4, hd2]) ?_; simp only [go_sem, reduceCtorEq, List.length_map, List.length_append, List.length_cons, List.length_nil, e1, e2, f1, f3, f4, hd2]) | (refine AX.makeMap rfl (by first | exact tM65 | exact tM66) rfl ?_; simp only [go_sem, reduceCtorEq, List.length_map, List.length_append, List.length_cons, List.length_nil, e1, e2, f1, f3, f4, hd2]) | (refine AX.lenMap rfl (by first | exact tM65 | exact tM66) rfl rfl rfl ?_; simp only [go_sem, reduceCtorEq, List.length_map, List.length_append, List.length_cons, List.length_nil, e1, e2, f1, f3, f4, hd2]) | (refine AX.range rfl (by first | exact tM65 | exact tM66) rfl rfl rfl ?_; simp only [go_sem, reduceCtorEq, List.length_map, List.length_append, List.length_cons, List.length_nil, e1, e2, f1, f3, f4, hd2]) | (refine AX.appendStr rfl (by first | exact tL22 | exact tL23 | exact tL25 | exact tL34 | exact tL36 | exact tL50 | exact tL100) (by simp only [go_sem]) (by simp only [go_sem]) (by simp only [go_sem]) rfl rfl rfl rfl (by simp only [go_sem, reduceCtorEq, List.length_map, List.length_append, List.length_cons, List.length_nil, e1, e2, f1, f3, f4, hd2]; first | omega | (simp; omega)) ?_; simp only [go_sem, reduceCtorEq, List.length_map, List.length_append, List.length_cons, List.length_nil, e1, e2, f1, f3, f4, hd2]) | (refine AX.shr rfl rfl rfl rfl (by first | decide | omega) ?_; simp only [go_sem, reduceCtorEq, List.length_map, List.length_append, List.length_cons, List.length_nil, e1, e2, f1, f3, f4, hd2]) | (refine AX.shl rfl rfl rfl rfl (by first | decide | omega) ?_; simp only [go_sem, reduceCtorEq, List.length_map, List.length_append, List.length_cons, List.length_nil, e1, e2, f1, f3, f4, hd2]) | (refine AX.bits rfl rfl rfl (by assumption) rfl ?_; simp only [go_sem, reduceCtorEq, List.length_map, List.length_append, List.length_cons, List.length_nil, e1, e2, f1, f3, f4, hd2]) | (refine AX.nilSl rfl (by first | exact tL22 | exact tL23 | exact tL25 | exact tL34 | exact tL36 | exact tL50 | exact tL100) (by first | exact .inl rfl | exact .inr rfl) rfl rfl rfl ?_; simp only [go_sem, reduceCtorEq, List.length_map, List.length_append, List.length_cons, List.length_nil, e1, e2, f1, f3, f4, hd2]))
          | ((show indepK _ _ _ _ = true ∧ _); refine And.intro (by kernel_rfl) ?_)
          | ((show _ ∧ _); refine And.intro (by first | omega | assumption | (simp only [go_sem]; omega) | (simp; omega) | (simp; done)) ?_)
          | (refine hK _ ?_; clear hK K)
          | (clear hK K; refine hK _ ?_; clear hK K)
          | (clear hK K; clear hK K; refine hK _ ?_; clear hK K)
          | (clear hK K; clear hK K; clear hK K; refine hK _ ?_; clear hK K)
          | fail)
        simp [hinv, withD, hb, imR_nil, unim_im]
    obtain ⟨⟨q, n⟩, hx, hm, hd⟩ := drop_at hlt
    have e1 : decide ((i : Int) < l.length) = true := by simp; omega
    have e0 : decide (i < l.length) = true := by simp; omega
    have hw := w64s i (by omega)
    have c21 := comparePaths_c q p
    have hg := hge _ hx
    rw [withD_stop hx hg] at hinv
    simp only at hinv hg
    by_cases hc : cmpPath q p = 0
    rotate_left
    · have e3 : (cmpPath q p == 0) = false := by simp [hc]
      rw [if_neg hc] at hinv
      by_cases hb : b = 0
      · have e2 : (b != 0) = false := by simp [hb]
        rw [if_neg (by simpa using hb)] at hinv
        repeat' (first
          | ((show W _ _ _ _); first | (refine W.seq fun K hK => ?_) | refine W.block ?_ | (refine W.reg rfl ?_; simp only [go_sem, reduceCtorEq, List.length_map, List.length_append, List.length_cons, List.length_nil, e1, e2, f1, f3, f4, e0, e3, List.getElem?_map, hx, dlA]) | (refine W.regD Try_mo rfl rfl ?_; simp only [go_sem, reduceCtorEq, List.length_map, List.length_append, List.length_cons, List.length_nil, e1, e2, f1, f3, f4, e0, e3, List.getElem?_map, hx, dlA]) | (refine W.skip ?_; simp only [go_sem]) | (refine W.exit ?_; simp only [go_sem]) | (refine W.ret (Post.ret ?_); simp only [go_sem, reduceCtorEq, List.length_map, List.length_append, List.length_cons, List.length_nil, e1, e2, f1, f3, f4, e0, e3, List.getElem?_map, hx, dlA]) | refine W.condT rfl ?_ | refine W.condF rfl ?_ | refine W.cond rfl (fun h => ?_) (fun h => ?_))
          | ((show AX _ _ _ _ _); first | (refine AX.pcall rfl rfl (by simp only [go_sem, unim_im]; rfl) (by solve_by_elim) rfl rfl ?_; simp only [go_sem, reduceCtorEq, List.length_map, List.length_append, List.length_cons, List.length_nil, e1, e2, f1, f3, f4, e0, e3, List.getElem?_map, hx, dlA]) | (refine AX.pcallF rfl rfl (by simp only [go_sem, unim_im]; rfl) (by simp only [go_sem, unim_im]; rfl) (by solve_by_elim) rfl rfl ?_; simp only [go_sem, reduceCtorEq, List.length_map, List.length_append, List.length_cons, List.length_nil, e1, e2, f1, f3, f4, e0, e3, List.getElem?_map, hx, dlA]) | (refine AX.lookup rfl (by first | exact tM65 | exact tM66) (by first | exact tG2 | exact tG3 | exact tG4 | exact tG5 | exact tG7 | exact tG9 | exact tG12 | exact tG13 | exact tG18 | exact tG19 | exact tG20 | exact tG21 | exact tG22 | exact tG23 | exact tG25 | exact tG26 | exact tG27 | exact tG34 | exact tG36 | exact tG37 | exact tG38 | exact tG46 | exact tG49 | exact tG50 | exact tG51 | exact tG58 | exact tG59 | exact tG65 | exact tG66 | exact tG69 | exact tG70 | exact tG72 | exact tG74 | exact tG75 | exact tG79 | exact tG80 | exact tG87 | exact tG90 | exact tG95 | exact tG96 | exact tG100 | exact tG103 | exact tG111 | exact tG117 | exact tG121 | exact tG128 | exact tG134 | exact tG142 | exact tG145 | exact tG148) (by first | exact kd9) rfl rfl rfl (by assumption) rfl ?_; simp only [go_sem, reduceCtorEq, List.length_map, List.length_append, List.length_cons, List.length_nil, e1, e2, f1, f3, f4, e0, e3, List.getElem?_map, hx, dlA]) | (refine AX.mapUpdate rfl rfl (by first | exact tM65 | exact tM66) (by first | exact kd9) rfl rfl rfl (by assumption) rfl (by simp only [go_sem, reduceCtorEq, List.length_map, List.length_append, List.length_cons, List.length_nil, e1, e2, f1, f3, f4, e0, e3, List.getElem?_map, hx, dlA]) ?_; simp only [go_sem, reduceCtorEq, List.length_map, List.length_append, List.length_cons, List.length_nil, e1, e2, f1, f3, f4, e0, e3, List.getElem?_map, hx, dlA]) | (refine AX.makeMap rfl (by first | exact tM65 | exact tM66) rfl ?_; simp only [go_sem, reduceCtorEq, List.length_map, List.length_append, List.length_cons, List.length_nil, e1, e2, f1, f3, f4, e0, e3, List.getElem?_map, hx, dlA]) | (refine AX.lenMap rfl (by first | exact tM65 | exact tM66) rfl rfl rfl ?_; simp only [go_sem, reduceCtorEq, List.length_map, List.length_append, List.length_cons, List.length_nil, e1, e2, f1, f3, f4, e0, e3, List.getElem?_map, hx, dlA]) | (refine AX.range rfl (by first | exact tM65 | exact tM66) rfl rfl rfl ?_; simp only [go_sem, reduceCtorEq, List.length_map, List.length_append, List.length_cons, List.length_nil, e1, e2, f1, f3, f4, e0, e3, List.getElem?_map, hx, dlA]) | (refine AX.appendStr rfl (by first | exact tL22 | exact tL23 | exact tL25 | exact tL34 | exact tL36 | exact tL50 | exact tL100) (by simp only [go_sem]) (by simp only [go_sem]) (by simp only [go_sem]) rfl rfl rfl rfl (by simp only [go_sem, reduceCtorEq, List.length_map, List.length_append, List.length_cons, List.length_nil, e1, e2, f1, f3, f4, e0, e3, List.getElem?_map, hx, dlA]; first | omega | (simp; omega)) ?_; simp only [go_sem, reduceCtorEq, List.length_map, List.length_append, List.length_cons, List.length_nil, e1, e2, f1, f3, f4, e0, e3, List.getElem?_map, hx, dlA]) | (refine AX.shr rfl rfl rfl rfl (by first | decide | omega) ?_; simp only [go_sem, reduceCtorEq, List.length_map, List.length_append, List.length_cons, List.length_nil, e1, e2, f1, f3, f4, e0, e3, List.getElem?_map, hx, dlA]) | (refine AX.shl rfl rfl rfl rfl (by first | decide | omega) ?_; simp only [go_sem, reduceCtorEq, List.length_map, List.length_append, List.length_cons, List.length_nil, e1, e2, f1, f3, f4, e0, e3, List.getElem?_map, hx, dlA]) | (refine AX.bits rfl rfl rfl (by assumption) rfl ?_; simp only [go_sem, reduceCtorEq, List.length_map, List.length_append, List.length_cons, List.length_nil, e1, e2, f1, f3, f4, e0, e3, List.getElem?_map, hx, dlA]) | (refine AX.nilSl rfl (by first | exact tL22 | exact tL23 | exact tL25 | exact tL34 | exact tL36 | exact tL50 | exact tL100) (by first | exact .inl rfl | exact .inr rfl) rfl rfl rfl ?_; simp only [go_sem, reduceCtorEq, List.length_map, List.length_append, List.length_cons, List.length_nil, e1, e2, f1, f3, f4, e0, e3, List.getElem?_map, hx, dlA]))
          | ((show indepK _ _ _ _ = true ∧ _); refine And.intro (by kernel_rfl) ?_)
          | ((show _ ∧ _); refine And.intro (by first | omega | assumption | (simp only [go_sem]; omega) | (simp; omega) | (simp; done)) ?_)
          | (refine hK _ ?_; clear hK K)
          | (clear hK K; refine hK _ ?_; clear hK K)
          | (clear hK K; clear hK K; refine hK _ ?_; clear hK K)
          | (clear hK K; clear hK K; clear hK K; refine hK _ ?_; clear hK K)
          | fail)
        simp [hinv, ← List.map_take, ← List.map_drop, imR_join]
        rw [← List.map_append, List.take_append_drop]
      · have e2 : (b != 0) = true := by simp [hb]
        rw [if_pos hb] at hinv
        repeat' (first
          | ((show W _ _ _ _); first | refine W.stop (id := 10) ?_ | (refine W.seq fun K hK => ?_) | refine W.block ?_ | (refine W.reg rfl ?_; simp only [go_sem, reduceCtorEq, List.length_map, List.length_append, List.length_cons, List.length_nil, e1, e2, f1, f3, f4, e0, e3, List.getElem?_map, hx, dlA]) | (refine W.regD Try_mo rfl rfl ?_; simp only [go_sem, reduceCtorEq, List.length_map, List.length_append, List.length_cons, List.length_nil, e1, e2, f1, f3, f4, e0, e3, List.getElem?_map, hx, dlA]) | (refine W.skip ?_; simp only [go_sem]) | (refine W.exit ?_; simp only [go_sem]) | (refine W.ret (Post.ret ?_); simp only [go_sem, reduceCtorEq, List.length_map, List.length_append, List.length_cons, List.length_nil, e1, e2, f1, f3, f4, e0, e3, List.getElem?_map, hx, dlA]) | refine W.condT rfl ?_ | refine W.condF rfl ?_ | refine W.cond rfl (fun h => ?_) (fun h => ?_))
          | ((show AX _ _ _ _ _); first | (refine AX.pcall rfl rfl (by simp only [go_sem, unim_im]; rfl) (by solve_by_elim) rfl rfl ?_; simp only [go_sem, reduceCtorEq, List.length_map, List.length_append, List.length_cons, List.length_nil, e1, e2, f1, f3, f4, e0, e3, List.getElem?_map, hx, dlA]) | (refine AX.pcallF rfl rfl (by simp only [go_sem, unim_im]; rfl) (by simp only [go_sem, unim_im]; rfl) (by solve_by_elim) rfl rfl ?_; simp only [go_sem, reduceCtorEq, List.length_map, List.length_append, List.length_cons, List.length_nil, e1, e2, f1, f3, f4, e0, e3, List.getElem?_map, hx, dlA]) | (refine AX.lookup rfl (by first | exact tM65 | exact tM66) (by first | exact tG2 | exact tG3 | exact tG4 | exact tG5 | exact tG7 | exact tG9 | exact tG12 | exact tG13 | exact tG18 | exact tG19 | exact tG20 | exact tG21 | exact tG22 | exact tG23 | exact tG25 | exact tG26 | exact tG27 | exact tG34 | exact tG36 | exact tG37 | exact tG38 | exact tG46 | exact tG49 | exact tG50 | exact tG51 | exact tG58 | exact tG59 | exact tG65 | exact tG66 | exact tG69 | exact tG70 | exact tG72 | exact tG74 | exact tG75 | exact tG79 | exact tG80 | exact tG87 | exact tG90 | exact tG95 | exact tG96 | exact tG100 | exact tG103 | exact tG111 | exact tG117 | exact tG121 | exact tG128 | exact tG134 | exact tG142 | exact tG145 | exact tG148) (by first | exact kd9) rfl rfl rfl (by assumption) rfl ?_; simp only [go_sem, reduceCtorEq, List.length_map, List.length_append, List.length_cons, List.length_nil, e1, e2, f1, f3, f4, e0, e3, List.getElem?_map, hx, dlA]) | (refine AX.mapUpdate rfl rfl (by first | exact tM65 | exact tM66) (by first | exact kd9) rfl rfl rfl (by assumption) rfl (by simp only [go_sem, reduceCtorEq, List.length_map, List.length_append, List.length_cons, List.length_nil, e1, e2, f1, f3, f4, e0, e3, List.getElem?_map, hx, dlA]) ?_; simp only [go_sem, reduceCtorEq, List.length_map, List.length_append, List.length_cons, List.length_nil, e1, e2, f1, f3, f4, e0, e3, List.getElem?_map, hx, dlA]) | (refine AX.makeMap rfl (by first | exact tM65 | exact tM66) rfl ?_; simp only [go_sem, reduceCtorEq, List.length_map, List.length_append, List.length_cons, List.length_nil, e1, e2, f1, f3, f4, e0, e3, List.getElem?_map, hx, dlA]) | (refine AX.lenMap rfl (by first | exact tM65 | exact tM66) rfl rfl rfl ?_; simp only [go_sem, reduceCtorEq, List.length_map, List.length_append, List.length_cons, List.length_nil, e1, e2, f1, f3, f4, e0, e3, List.getElem?_map, hx, dlA]) | (refine AX.range rfl (by first | exact tM65 | exact tM66) rfl rfl rfl ?_; simp only [go_sem, reduceCtorEq, List.length_map, List.length_append, List.length_cons, List.length_nil, e1, e2, f1, f3, f4, e0, e3, List.getElem?_map, hx, dlA]) | (refine AX.appendStr rfl (by first | exact tL22 | exact tL23 | exact tL25 | exact tL34 | exact tL36 | exact tL50 | exact tL100) (by simp only [go_sem]) (by simp only [go_sem]) (by simp only [go_sem]) rfl rfl rfl rfl (by simp only [go_sem, reduceCtorEq, List.length_map, List.length_append, List.length_cons, List.length_nil, e1, e2, f1, f3, f4, e0, e3, List.getElem?_map, hx, dlA]; first | omega | (simp; omega)) ?_; simp only [go_sem, reduceCtorEq, List.length_map, List.length_append, List.length_cons, List.length_nil, e1, e2, f1, f3, f4, e0, e3, List.getElem?_map, hx, dlA]) | (refine AX.shr rfl rfl rfl rfl (by first | decide | omega) ?_; simp only [go_sem, reduceCtorEq, List.length_map, List.length_append, List.length_cons, List.length_nil, e1, e2, f1, f3, f4, e0, e3, List.getElem?_map, hx, dlA]) | (refine AX.shl rfl rfl rfl rfl (by first | decide | omega) ?_; simp only [go_sem, reduceCtorEq, List.length_map, List.length_append, List.length_cons, List.length_nil, e1, e2, f1, f3, f4, e0, e3, List.getElem?_map, hx, dlA]) | (refine AX.bits rfl rfl rfl (by assumption) rfl ?_; simp only [go_sem, reduceCtorEq, List.length_map, List.length_append, List.length_cons, List.length_nil, e1, e2, f1, f3, f4, e0, e3, List.getElem?_map, hx, dlA]) | (refine AX.nilSl rfl (by first | exact tL22 | exact tL23 | exact tL25 | exact tL34 | exact tL36 | exact tL50 | exact tL100) (by first | exact .inl rfl | exact .inr rfl) rfl rfl rfl ?_; simp only [go_sem, reduceCtorEq, List.length_map, List.length_append, List.length_cons, List.length_nil, e1, e2, f1, f3, f4, e0, e3, List.getElem?_map, hx, dlA]))
          | ((show indepK _ _ _ _ = true ∧ _); refine And.intro (by kernel_rfl) ?_)
          | ((show _ ∧ _); refine And.intro (by first | omega | assumption | (simp only [go_sem]; omega) | (simp; omega) | (simp; done)) ?_)
          | (refine hK _ ?_; clear hK K)
          | (clear hK K; refine hK _ ?_; clear hK K)
          | (clear hK K; clear hK K; refine hK _ ?_; clear hK K)
          | (clear hK K; clear hK K; clear hK K; refine hK _ ?_; clear hK K)
          | fail)
        refine Stop.out ?_
        refine W.fits (s' := { t := [(0, .c (.im (.sl 38 (l.map dlA)))), (7, ft (.int .i64 (i : Nat))), (8, .c (.ref 0))], h := [(0, .row 38 (imR ((l.take i).map dlA ++ [dlA (p, b)])))], nx := 1, ex := [], nt := 68 }) (Fits.freeze 25 rfl (unim_im _) ?_) ?_
        · simp only [go_sem]
          refine Fits.seeO 29 25 rfl rfl ?_
          simp only [go_sem]
          refine Fits.fit [(29, 0)] [0, 7, 8] 1 rfl rfl ?_
          simp only [go_sem, imR_sn2, dlA, List.map_take]
          exact Fits.rfl
        repeat' (first
          | ((show W _ _ _ _); first | (refine W.seq fun K hK => ?_) | refine W.block ?_ | (refine W.reg rfl ?_; simp only [go_sem, reduceCtorEq, List.length_map, List.length_append, List.length_cons, List.length_nil, e1, e2, f1, f3, f4, e0, e3, List.getElem?_map, hx, dlA]) | (refine W.regD Try_mo rfl rfl ?_; simp only [go_sem, reduceCtorEq, List.length_map, List.length_append, List.length_cons, List.length_nil, e1, e2, f1, f3, f4, e0, e3, List.getElem?_map, hx, dlA]) | (refine W.skip ?_; simp only [go_sem]) | (refine W.exit ?_; simp only [go_sem]) | (refine W.ret (Post.ret ?_); simp only [go_sem, reduceCtorEq, List.length_map, List.length_append, List.length_cons, List.length_nil, e1, e2, f1, f3, f4, e0, e3, List.getElem?_map, hx, dlA]) | refine W.condT rfl ?_ | refine W.condF rfl ?_ | refine W.cond rfl (fun h => ?_) (fun h => ?_))
          | ((show AX _ _ _ _ _); first | (refine AX.pcall rfl rfl (by simp only [go_sem, unim_im]; rfl) (by solve_by_elim) rfl rfl ?_; simp only [go_sem, reduceCtorEq, List.length_map, List.length_append, List.length_cons, List.length_nil, e1, e2, f1, f3, f4, e0, e3, List.getElem?_map, hx, dlA]) | (refine AX.pcallF rfl rfl (by simp only [go_sem, unim_im]; rfl) (by simp only [go_sem, unim_im]; rfl) (by solve_by_elim) rfl rfl ?_; simp only [go_sem, reduceCtorEq, List.length_map, List.length_append, List.length_cons, List.length_nil, e1, e2, f1, f3, f4, e0, e3, List.getElem?_map, hx, dlA]) | (refine AX.lookup rfl (by first | exact tM65 | exact tM66) (by first | exact tG2 | exact tG3 | exact tG4 | exact tG5 | exact tG7 | exact tG9 | exact tG12 | exact tG13 | exact tG18 | exact tG19 | exact tG20 | exact tG21 | exact tG22 | exact tG23 | exact tG25 | exact tG26 | exact tG27 | exact tG34 | exact tG36 | exact tG37 | exact tG38 | exact tG46 | exact tG49 | exact tG50 | exact tG51 | exact tG58 | exact tG59 | exact tG65 | exact tG66 | exact tG69 | exact tG70 | exact tG72 | exact tG74 | exact tG75 | exact tG79 | exact tG80 | exact tG87 | exact tG90 | exact tG95 | exact tG96 | exact tG100 | exact tG103 | exact tG111 | exact tG117 | exact tG121 | exact tG128 | exact tG134 | exact tG142 | exact tG145 | exact tG148) (by first | exact kd9) rfl rfl rfl (by assumption) rfl ?_; simp only [go_sem, reduceCtorEq, List.length_map, List.length_append, List.length_cons, List.length_nil, e1, e2, f1, f3, f4, e0, e3, List.getElem?_map, hx, dlA]) | (refine AX.mapUpdate rfl rfl (by first | exact tM65 | exact tM66) (by first | exact kd9) rfl rfl rfl (by assumption) rfl (by simp only [go_sem, reduceCtorEq, List.length_map, List.length_append, List.length_cons, List.length_nil, e1, e2, f1, f3, f4, e0, e3, List.getElem?_map, hx, dlA]) ?_; simp only [go_sem, reduceCtorEq, List.length_map, List.length_append, List.length_cons, List.length_nil, e1, e2, f1, f3, f4, e0, e3, List.getElem?_map, hx, dlA]) | (refine AX.makeMap rfl (by first | exact tM65 | exact tM66) rfl ?_; simp only [go_sem, reduceCtorEq, List.length_map, List.length_append, List.length_cons, List.length_nil, e1, e2, f1, f3, f4, e0, e3, List.getElem?_map, hx, dlA]) | (refine AX.lenMap rfl (by first | exact tM65 | exact tM66) rfl rfl rfl ?_; simp only [go_sem, reduceCtorEq, List.length_map, List.length_append, List.length_cons, List.length_nil, e1, e2, f1, f3, f4, e0, e3, List.getElem?_map, hx, dlA]) | (refine AX.range rfl (by first | exact tM65 | exact tM66) rfl rfl rfl ?_; simp only [go_sem, reduceCtorEq, List.length_map, List.length_append, List.length_cons, List.length_nil, e1, e2, f1, f3, f4, e0, e3, List.getElem?_map, hx, dlA]) | (refine AX.appendStr rfl (by first | exact tL22 | exact tL23 | exact tL25 | exact tL34 | exact tL36 | exact tL50 | exact tL100) (by simp only [go_sem]) (by simp only [go_sem]) (by simp only [go_sem]) rfl rfl rfl rfl (by simp only [go_sem, reduceCtorEq, List.length_map, List.length_append, List.length_cons, List.length_nil, e1, e2, f1, f3, f4, e0, e3, List.getElem?_map, hx, dlA]; first | omega | (simp; omega)) ?_; simp only [go_sem, reduceCtorEq, List.length_map, List.length_append, List.length_cons, List.length_nil, e1, e2, f1, f3, f4, e0, e3, List.getElem?_map, hx, dlA]) | (refine AX.shr rfl rfl rfl rfl (by first | decide | omega) ?_; simp only [go_sem, reduceCtorEq, List.length_map, List.length_append, List.length_cons, List.length_nil, e1, e2, f1, f3, f4, e0, e3, List.getElem?_map, hx, dlA]) | (refine AX.shl rfl rfl rfl rfl (by first | decide | omega) ?_; simp only [go_sem, reduceCtorEq, List.length_map, List.length_append, List.length_cons, List.length_nil, e1, e2, f1, f3, f4, e0, e3, List.getElem?_map, hx, dlA]) | (refine AX.bits rfl rfl rfl (by assumption) rfl ?_; simp only [go_sem, reduceCtorEq, List.length_map, List.length_append, List.length_cons, List.length_nil, e1, e2, f1, f3, f4, e0, e3, List.getElem?_map, hx, dlA]) | (refine AX.nilSl rfl (by first | exact tL22 | exact tL23 | exact tL25 | exact tL34 | exact tL36 | exact tL50 | exact tL100) (by first | exact .inl rfl | exact .inr rfl) rfl rfl rfl ?_; simp only [go_sem, reduceCtorEq, List.length_map, List.length_append, List.length_cons, List.length_nil, e1, e2, f1, f3, f4, e0, e3, List.getElem?_map, hx, dlA]))
          | ((show indepK _ _ _ _ = true ∧ _); refine And.intro (by kernel_rfl) ?_)
          | ((show _ ∧ _); refine And.intro (by first | omega | assumption | (simp only [go_sem]; omega) | (simp; omega) | (simp; done)) ?_)
          | (refine hK _ ?_; clear hK K)
          | (clear hK K; refine hK _ ?_; clear hK K)
          | (clear hK K; clear hK K; refine hK _ ?_; clear hK K)
          | (clear hK K; clear hK K; clear hK K; refine hK _ ?_; clear hK K)
          | fail)
        simp [hinv, ← List.map_take, ← List.map_drop, imR_join, dlA]
    have e3 : (cmpPath q p == 0) = true := by simp [hc]
    have f5 : decide (i + 1 ≤ l.length) = true := by simp; omega
    rw [if_pos hc] at hinv
    by_cases hb : IntKind.i64.wrap (b + n) = 0
    · have e2 : (IntKind.i64.wrap (b + n) != 0) = false := by simp [hb]
      rw [if_neg (by simpa using hb)] at hinv
      repeat' (first
        | ((show W _ _ _ _); first | (refine W.seq fun K hK => ?_) | refine W.block ?_ | (refine W.reg rfl ?_; simp only [go_sem, reduceCtorEq, List.length_map, List.length_append, List.length_cons, List.length_nil, e1, e2, f1, f3, f4, e0, e3, f5, hw, List.getElem?_map, hx, dlA]) | (refine W.regD Try_mo rfl rfl ?_; simp only [go_sem, reduceCtorEq, List.length_map, List.length_append, List.length_cons, List.length_nil, e1, e2, f1, f3, f4, e0, e3, f5, hw, List.getElem?_map, hx, dlA]) | (refine W.skip ?_; simp only [go_sem]) | (refine W.exit ?_; simp only [go_sem]) | (refine W.ret (Post.ret ?_); simp only [go_sem, reduceCtorEq, List.length_map, List.length_append, List.length_cons, List.length_nil, e1, e2, f1, f3, f4, e0, e3, f5, hw, List.getElem?_map, hx, dlA]) | refine W.condT rfl ?_ | refine W.condF rfl ?_ | refine W.cond rfl (fun h => ?_) (fun h => ?_))
        | ((show AX _ _ _ _ _); first | (refine AX.pcall rfl rfl (by simp only [go_sem, unim_im]; rfl) (by solve_by_elim) rfl rfl ?_; simp only [go_sem, reduceCtorEq, List.length_map, List.length_append, List.length_cons, List.length_nil, e1, e2, f1, f3, f4, e0, e3, f5, hw, List.getElem?_map, hx, dlA]) | (refine AX.pcallF rfl rfl (by simp only [go_sem, unim_im]; rfl) (by simp only [go_sem, unim_im]; rfl) (by solve_by_elim) rfl rfl ?_; simp only [go_sem, reduceCtorEq, List.length_map, List.length_append, List.length_cons, List.length_nil, e1, e2, f1, f3, f4, e0, e3, f5, hw, List.getElem?_map, hx, dlA]) | (refine AX.lookup rfl (by first | exact tM65 | exact tM66) (by first | exact tG2 | exact tG3 | exact tG4 | exact tG5 | exact tG7 | exact tG9 | exact tG12 | exact tG13 | exact tG18 | exact tG19 | exact tG20 | exact tG21 | exact tG22 | exact tG23 | exact tG25 | exact tG26 | exact tG27 | exact tG34 | exact tG36 | exact tG37 | exact tG38 | exact tG46 | exact tG49 | exact tG50 | exact tG51 | exact tG58 | exact tG59 | exact tG65 | exact tG66 | exact tG69 | exact tG70 | exact tG72 | exact tG74 | exact tG75 | exact tG79 | exact tG80 | exact tG87 | exact tG90 | exact tG95 | exact tG96 | exact tG100 | exact tG103 | exact tG111 | exact tG117 | exact tG121 | exact tG128 | exact tG134 | exact tG142 | exact tG145 | exact tG148) (by first | exact kd9) rfl rfl rfl (by assumption) rfl ?_; simp only [go_sem, reduceCtorEq, List.length_map, List.length_append, List.length_cons, List.length_nil, e1, e2, f1, f3, f4, e0, e3, f5, hw, List.getElem?_map, hx, dlA]) | (refine AX.mapUpdate rfl rfl (by first | exact tM65 | exact tM66) (by first | exact kd9) rfl rfl rfl (by assumption) rfl (by simp only [go_sem, reduceCtorEq, List.length_map, List.length_append, List.length_cons, List.length_nil, e1, e2, f1, f3, f4, e0, e3, f5, hw, List.getElem?_map, hx, dlA]) ?_; simp only [go_sem, reduceCtorEq, List.length_map, List.length_append, List.length_cons, List.length_nil, e1, e2, f1, f3, f4, e0, e3, f5, hw, List.getElem?_map, hx, dlA]) | (refine AX.makeMap rfl (by first | exact tM65 | exact tM66) rfl ?_; simp only [go_sem, reduceCtorEq, List.length_map, List.length_append, List.length_cons, List.length_nil, e1, e2, f1, f3, f4, e0, e3, f5, hw, List.getElem?_map, hx, dlA]) | (refine AX.lenMap rfl (by first | exact tM65 | exact tM66) rfl rfl rfl ?_; simp only [go_sem, reduceCtorEq, List.length_map, List.length_append, List.length_cons, List.length_nil, e1, e2, f1, f3, f4, e0, e3, f5, hw, List.getElem?_map, hx, dlA]) | (refine AX.range rfl (by first | exact tM65 | exact tM66) rfl rfl rfl ?_; simp only [go_sem, reduceCtorEq, List.length_map, List.length_append, List.length_cons, List.length_nil, e1, e2, f1, f3, f4, e0, e3, f5, hw, List.getElem?_map, hx, dlA]) | (refine AX.appendStr rfl (by first | exact tL22 | exact tL23 | exact tL25 | exact tL34 | exact tL36 | exact tL50 | exact tL100) (by simp only [go_sem]) (by simp only [go_sem]) (by simp only [go_sem]) rfl rfl rfl rfl (by simp only [go_sem, reduceCtorEq, List.length_map, List.length_append, List.length_cons, List.length_nil, e1, e2, f1, f3, f4, e0, e3, f5, hw, List.getElem?_map, hx, dlA]; first | omega | (simp; omega)) ?_; simp only [go_sem, reduceCtorEq, List.length_map, List.length_append, List.length_cons, List.length_nil, e1, e2, f1, f3, f4, e0, e3, f5, hw, List.getElem?_map, hx, dlA]) | (refine AX.shr rfl rfl rfl rfl (by first | decide | omega) ?_; simp only [go_sem, reduceCtorEq, List.length_map, List.length_append, List.length_cons, List.length_nil, e1, e2, f1, f3, f4, e0, e3, f5, hw, List.getElem?_map, hx, dlA]) | (refine AX.shl rfl rfl rfl rfl (by first | decide | omega) ?_; simp only [go_sem, reduceCtorEq, List.length_map, List.length_append, List.length_cons, List.length_nil, e1, e2, f1, f3, f4, e0, e3, f5, hw, List.getElem?_map, hx, dlA]) | (refine AX.bits rfl rfl rfl (by assumption) rfl ?_; simp only [go_sem, reduceCtorEq, List.length_map, List.length_append, List.length_cons, List.length_nil, e1, e2, f1, f3, f4, e0, e3, f5, hw, List.getElem?_map, hx, dlA]) | (refine AX.nilSl rfl (by first | exact tL22 | exact tL23 | exact tL25 | exact tL34 | exact tL36 | exact tL50 | exact tL100) (by first | exact .inl rfl | exact .inr rfl) rfl rfl rfl ?_; simp only [go_sem, reduceCtorEq, List.length_map, List.length_append, List.length_cons, List.length_nil, e1, e2, f1, f3, f4, e0, e3, f5, hw, List.getElem?_map, hx, dlA]))
        | ((show indepK _ _ _ _ = true ∧ _); refine And.intro (by kernel_rfl) ?_)
        | ((show _ ∧ _); refine And.intro (by first | omega | assumption | (simp only [go_sem]; omega) | (simp; omega) | (simp; done)) ?_)
        | (refine hK _ ?_; clear hK K)
        | (clear hK K; refine hK _ ?_; clear hK K)
        | (clear hK K; clear hK K; refine hK _ ?_; clear hK K)
        | (clear hK K; clear hK K; clear hK K; refine hK _ ?_; clear hK K)
        | fail)
      simp [hinv, ← List.map_take, ← List.map_drop, imR_join]
    · have e2 : (IntKind.i64.wrap (b + n) != 0) = true := by simp [hb]
      rw [if_pos hb] at hinv
      repeat' (first
        | ((show W _ _ _ _); first | refine W.stop (id := 10) ?_ | (refine W.seq fun K hK => ?_) | refine W.block ?_ | (refine W.reg rfl ?_; simp only [go_sem, reduceCtorEq, List.length_map, List.length_append, List.length_cons, List.length_nil, e1, e2, f1, f3, f4, e0, e3, f5, hw, List.getElem?_map, hx, dlA]) | (refine W.regD Try_mo rfl rfl ?_; simp only [go_sem, reduceCtorEq, List.length_map, List.length_append, List.length_cons, List.length_nil, e1, e2, f1, f3, f4, e0, e3, f5, hw, List.getElem?_map, hx, dlA]) | (refine W.skip ?_; simp only [go_sem]) | (refine W.exit ?_; simp only [go_sem]) | (refine W.ret (Post.ret ?_); simp only [go_sem, reduceCtorEq, List.length_map, List.length_append, List.length_cons, List.length_nil, e1, e2, f1, f3, f4, e0, e3, f5, hw, List.getElem?_map, hx, dlA]) | refine W.condT rfl ?_ | refine W.condF rfl ?_ | refine W.cond rfl (fun h => ?_) (fun h => ?_))
        | ((show AX _ _ _ _ _); first | (refine AX.pcall rfl rfl (by simp only [go_sem, unim_im]; rfl) (by solve_by_elim) rfl rfl ?_; simp only [go_sem, reduceCtorEq, List.length_map, List.length_append, List.length_cons, List.length_nil, e1, e2, f1, f3, f4, e0, e3, f5, hw, List.getElem?_map, hx, dlA]) | (refine AX.pcallF rfl rfl (by simp only [go_sem, unim_im]; rfl) (by simp only [go_sem, unim_im]; rfl) (by solve_by_elim) rfl rfl ?_; simp only [go_sem, reduceCtorEq, List.length_map, List.length_append, List.length_cons, List.length_nil, e1, e2, f1, f3, f4, e0, e3, f5, hw, List.getElem?_map, hx, dlA]) | (refine AX.lookup rfl (by first | exact tM65 | exact tM66) (by first | exact tG2 | exact tG3 | exact tG4 | exact tG5 | exact tG7 | exact tG9 | exact tG12 | exact tG13 | exact tG18 | exact tG19 | exact tG20 | exact tG21 | exact tG22 | exact tG23 | exact tG25 | exact tG26 | exact tG27 | exact tG34 | exact tG36 | exact tG37 | exact tG38 | exact tG46 | exact tG49 | exact tG50 | exact tG51 | exact tG58 | exact tG59 | exact tG65 | exact tG66 | exact tG69 | exact tG70 | exact tG72 | exact tG74 | exact tG75 | exact tG79 | exact tG80 | exact tG87 | exact tG90 | exact tG95 | exact tG96 | exact tG100 | exact tG103 | exact tG111 | exact tG117 | exact tG121 | exact tG128 | exact tG134 | exact tG142 | exact tG145 | exact tG148) (by first | exact kd9) rfl rfl rfl (by assumption) rfl ?_; simp only [go_sem, reduceCtorEq, List.length_map, List.length_append, List.length_cons, List.length_nil, e1, e2, f1, f3, f4, e0, e3, f5, hw, List.getElem?_map, hx, dlA]) | (refine AX.mapUpdate rfl rfl (by first | exact tM65 | exact tM66) (by first | exact kd9) rfl rfl rfl (by assumption) rfl (by simp only [go_sem, reduceCtorEq, List.length_map, List.length_append, List.length_cons, List.length_nil, e1, e2, f1, f3, f4, e0, e3, f5, hw, List.getElem?_map, hx, dlA]) ?_; simp only [go_sem, reduceCtorEq, List.length_map, List.length_append, List.length_cons, List.length_nil, e1, e2, f1, f3, f4, e0, e3, f5, hw, List.getElem?_map, hx, dlA]) | (refine AX.makeMap rfl (by first | exact tM65 | exact tM66) rfl ?_; simp only [go_sem, reduceCtorEq, List.length_map, List.length_append, List.length_cons, List.length_nil, e1, e2, f1, f3, f4, e0, e3, f5, hw, List.getElem?_map, hx, dlA]) | (refine AX.lenMap rfl (by first | exact tM65 | exact tM66) rfl rfl rfl ?_; simp only [go_sem, reduceCtorEq, List.length_map, List.length_append, List.length_cons, List.length_nil, e1, e2, f1, f3, f4, e0, e3, f5, hw, List.getElem?_map, hx, dlA]) | (refine AX.range rfl (by first | exact tM65 | exact tM66) rfl rfl rfl ?_; simp only [go_sem, reduceCtorEq, List.length_map, List.length_append, List.length_cons, List.length_nil, e1, e2, f1, f3, f4, e0, e3, f5, hw, List.getElem?_map, hx, dlA]) | (refine AX.appendStr rfl (by first | exact tL22 | exact tL23 | exact tL25 | exact tL34 | exact tL36 | exact tL50 | exact tL100) (by simp only [go_sem]) (by simp only [go_sem]) (by simp only [go_sem]) rfl rfl rfl rfl (by simp only [go_sem, reduceCtorEq, List.length_map, List.length_append, List.length_cons, List.length_nil, e1, e2, f1, f3, f4, e0, e3, f5, hw, List.getElem?_map, hx, dlA]; first | omega | (simp; omega)) ?_; simp only [go_sem, reduceCtorEq, List.length_map, List.length_append, List.length_cons, List.length_nil, e1, e2, f1, f3, f4, e0, e3, f5, hw, List.getElem?_map, hx, dlA]) | (refine AX.shr rfl rfl rfl rfl (by first | decide | omega) ?_; simp only [go_sem, reduceCtorEq, List.length_map, List.length_append, List.length_cons, List.length_nil, e1, e2, f1, f3, f4, e0, e3, f5, hw, List.getElem?_map, hx, dlA]) | (refine AX.shl rfl rfl rfl rfl (by first | decide | omega) ?_; simp only [go_sem, reduceCtorEq, List.length_map, List.length_append, List.length_cons, List.length_nil, e1, e2, f1, f3, f4, e0, e3, f5, hw, List.getElem?_map, hx, dlA]) | (refine AX.bits rfl rfl rfl (by assumption) rfl ?_; simp only [go_sem, reduceCtorEq, List.length_map, List.length_append, List.length_cons, List.length_nil, e1, e2, f1, f3, f4, e0, e3, f5, hw, List.getElem?_map, hx, dlA]) | (refine AX.nilSl rfl (by first | exact tL22 | exact tL23 | exact tL25 | exact tL34 | exact tL36 | exact tL50 | exact tL100) (by first | exact .inl rfl | exact .inr rfl) rfl rfl rfl ?_; simp only [go_sem, reduceCtorEq, List.length_map, List.length_append, List.length_cons, List.length_nil, e1, e2, f1, f3, f4, e0, e3, f5, hw, List.getElem?_map, hx, dlA]))
        | ((show indepK _ _ _ _ = true ∧ _); refine And.intro (by kernel_rfl) ?_)
        | ((show _ ∧ _); refine And.intro (by first | omega | assumption | (simp only [go_sem]; omega) | (simp; omega) | (simp; done)) ?_)
        | (refine hK _ ?_; clear hK K)
        | (clear hK K; refine hK _ ?_; clear hK K)
        | (clear hK K; clear hK K; refine hK _ ?_; clear hK K)
        | (clear hK K; clear hK K; clear hK K; refine hK _ ?_; clear hK K)
        | fail)
      refine Stop.out ?_
      refine W.fits (s' := { t := [(0, .c (.im (.sl 38 (l.map dlA)))), (7, ft (.int .i64 (i + 1 : Nat))), (8, .c (.ref 0))], h := [(0, .row 38 (imR ((l.take i).map dlA ++ [dlA (p, IntKind.i64.wrap (b + n))])))], nx := 1, ex := [], nt := 68 }) (Fits.freeze 36 rfl (unim_im _) ?_) ?_
      · simp only [go_sem]
        refine Fits.seeO 40 36 rfl rfl ?_
        simp only [go_sem]
        refine Fits.fit [(40, 0)] [0, 7, 8] 1 rfl rfl ?_
        simp only [go_sem, imR_sn2, dlA, List.map_take]
        exact Fits.rfl
      repeat' (first
        | ((show W _ _ _ _); first | (refine W.seq fun K hK => ?_) | refine W.block ?_ | (refine W.reg rfl ?_; simp only [go_sem, reduceCtorEq, List.length_map, List.length_append, List.length_cons, List.length_nil, e1, e2, f1, f3, f4, e0, e3, f5, hw, List.getElem?_map, hx, dlA]) | (refine W.regD Try_mo rfl rfl ?_; simp only [go_sem, reduceCtorEq, List.length_map, List.length_append, List.length_cons, List.length_nil, e1, e2, f1, f3, f4, e0, e3, f5, hw, List.getElem?_map, hx, dlA]) | (refine W.skip ?_; simp only [go_sem]) | (refine W.exit ?_; simp only [go_sem]) | (refine W.ret (Post.ret ?_); simp only [go_sem, reduceCtorEq, List.length_map, List.length_append, List.length_cons, List.length_nil, e1, e2, f1, f3, f4, e0, e3, f5, hw, List.getElem?_map, hx, dlA]) | refine W.condT rfl ?_ | refine W.condF rfl ?_ | refine W.cond rfl (fun h => ?_) (fun h => ?_))
        | ((show AX _ _ _ _ _); first | (refine AX.pcall rfl rfl (by simp only [go_sem, unim_im]; rfl) (by solve_by_elim) rfl rfl ?_; simp only [go_sem, reduceCtorEq, List.length_map, List.length_append, List.length_cons, List.length_nil, e1, e2, f1, f3, f4, e0, e3, f5, hw, List.getElem?_map, hx, dlA]) | (refine AX.pcallF rfl rfl (by simp only [go_sem, unim_im]; rfl) (by simp only [go_sem, unim_im]; rfl) (by solve_by_elim) rfl rfl ?_; simp only [go_sem, reduceCtorEq, List.length_map, List.length_append, List.length_cons, List.length_nil, e1, e2, f1, f3, f4, e0, e3, f5, hw, List.getElem?_map, hx, dlA]) | (refine AX.lookup rfl (by first | exact tM65 | exact tM66) (by first | exact tG2 | exact tG3 | exact tG4 | exact tG5 | exact tG7 | exact tG9 | exact tG12 | exact tG13 | exact tG18 | exact tG19 | exact tG20 | exact tG21 | exact tG22 | exact tG23 | exact tG25 | exact tG26 | exact tG27 | exact tG34 | exact tG36 | exact tG37 | exact tG38 | exact tG46 | exact tG49 | exact tG50 | exact tG51 | exact tG58 | exact tG59 | exact tG65 | exact tG66 | exact tG69 | exact tG70 | exact tG72 | exact tG74 | exact tG75 | exact tG79 | exact tG80 | exact tG87 | exact tG90 | exact tG95 | exact tG96 | exact tG100 | exact tG103 | exact tG111 | exact tG117 | exact tG121 | exact tG128 | exact tG134 | exact tG142 | exact tG145 | exact tG148) (by first | exact kd9) rfl rfl rfl (by assumption) rfl ?_; simp only [go_sem, reduceCtorEq, List.length_map, List.length_append, List.length_cons, List.length_nil, e1, e2, f1, f3, f4, e0, e3, f5, hw, List.getElem?_map, hx, dlA]) | (refine AX.mapUpdate rfl rfl (by first | exact tM65 | exact tM66) (by first | exact kd9) rfl rfl rfl (by assumption) rfl (by simp only [go_sem, reduceCtorEq, List.length_map, List.length_append, List.length_cons, List.length_nil, e1, e2, f1, f3, f4, e0, e3, f5, hw, List.getElem?_map, hx, dlA]) ?_; simp only [go_sem, reduceCtorEq, List.length_map, List.length_append, List.length_cons, List.length_nil, e1, e2, f1, f3, f4, e0, e3, f5, hw, List.getElem?_map, hx, dlA]) | (refine AX.makeMap rfl (by first | exact tM65 | exact tM66) rfl ?_; simp only [go_sem, reduceCtorEq, List.length_map, List.length_append, List.length_cons, List.length_nil, e1, e2, f1, f3, f4, e0, e3, f5, hw, List.getElem?_map, hx, dlA]) | (refine AX.lenMap rfl (by first | exact tM65 | exact tM66) rfl rfl rfl ?_; simp only [go_sem, reduceCtorEq, List.length_map, List.length_append, List.length_cons, List.length_nil, e1, e2, f1, f3, f4, e0, e3, f5, hw, List.getElem?_map, hx, dlA]) | (refine AX.range rfl (by first | exact tM65 | exact tM66) rfl rfl rfl ?_; simp only [go_sem, reduceCtorEq, List.length_map, List.length_append, List.length_cons, List.length_nil, e1, e2, f1, f3, f4, e0, e3, f5, hw, List.getElem?_map, hx, dlA]) | (refine AX.appendStr rfl (by first | exact tL22 | exact tL23 | exact tL25 | exact tL34 | exact tL36 | exact tL50 | exact tL100) (by simp only [go_sem]) (by simp only [go_sem]) (by simp only [go_sem]) rfl rfl rfl rfl (by simp only [go_sem, reduceCtorEq, List.length_map, List.length_append, List.length_cons, List.length_nil, e1, e2, f1, f3, f4, e0, e3, f5, hw, List.getElem?_map, hx, dlA]; first | omega | (simp; omega)) ?_; simp only [go_sem, reduceCtorEq, List.length_map, List.length_append, List.length_cons, List.length_nil, e1, e2, f1, f3, f4, e0, e3, f5, hw, List.getElem?_map, hx, dlA]) | (refine AX.shr rfl rfl rfl rfl (by first | decide | omega) ?_; simp only [go_sem, reduceCtorEq, List.length_map, List.length_append, List.length_cons, List.length_nil, e1, e2, f1, f3, f4, e0, e3, f5, hw, List.getElem?_map, hx, dlA]) | (refine AX.shl rfl rfl rfl rfl (by first | decide | omega) ?_; simp only [go_sem, reduceCtorEq, List.length_map, List.length_append, List.length_cons, List.length_nil, e1, e2, f1, f3, f4, e0, e3, f5, hw, List.getElem?_map, hx, dlA]) | (refine AX.bits rfl rfl rfl (by assumption) rfl ?_; simp only [go_sem, reduceCtorEq, List.length_map, List.length_append, List.length_cons, List.length_nil, e1, e2, f1, f3, f4, e0, e3, f5, hw, List.getElem?_map, hx, dlA]) | (refine AX.nilSl rfl (by first | exact tL22 | exact tL23 | exact tL25 | exact tL34 | exact tL36 | exact tL50 | exact tL100) (by first | exact .inl rfl | exact .inr rfl) rfl rfl rfl ?_; simp only [go_sem, reduceCtorEq, List.length_map, List.length_append, List.length_cons, List.length_nil, e1, e2, f1, f3, f4, e0, e3, f5, hw, List.getElem?_map, hx, dlA]))
        | ((show indepK _ _ _ _ = true ∧ _); refine And.intro (by kernel_rfl) ?_)
        | ((show _ ∧ _); refine And.intro (by first | omega | assumption | (simp only [go_sem]; omega) | (simp; omega) | (simp; done)) ?_)
        | (refine hK _ ?_; clear hK K)
        | (clear hK K; refine hK _ ?_; clear hK K)
        | (clear hK K; clear hK K; refine hK _ ?_; clear hK K)
        | (clear hK K; clear hK K; clear hK K; refine hK _ ?_; clear hK K)
        | fail)
      simp [hinv, ← List.map_take, ← List.map_drop, imR_join, dlA]
  refine W.loopF (T := fun i : Nat => { t := [(0, .c (.im (.sl 38 (l.map dlA)))), (1, .c (.im (.sl 59 (p.map nmA)))), (2, ft (.int .i64 b)), (6, ft (.slice none 0 0)), (7, ft (.int .i64 (i : Nat)))], h := [], nx := 0, ex := [], nt := 68 })
    (Inv := fun i => i ≤ l.length ∧ withD p b l = l.take i ++ withD p b (l.drop i)) (μ := fun i => l.length - i) (x0 := 0) (Fits.fit [] [0, 1, 2, 6, 7] 0 rfl rfl ?_) ⟨Nat.zero_le _, rfl⟩ ?_
  · simp only [go_sem]
    exact Fits.rfl
  rintro i ⟨hi, hinv⟩ KL hKL
  clear hK
  by_cases hlt : i < l.length
  rotate_left
  · have e1 : decide ((i : Int) < l.length) = false := by simp; omega
    repeat' (first
      | ((show W _ _ _ _); first | (refine W.seq fun K hK => ?_) | refine W.block ?_ | (refine W.reg rfl ?_; simp only [go_sem, reduceCtorEq, List.length_map, e1]) | (refine W.regD Try_mo rfl rfl ?_; simp only [go_sem, reduceCtorEq, List.length_map, e1]) | (refine W.skip ?_; simp only [go_sem]) | (refine W.exit ?_; simp only [go_sem]) | (refine W.ret (Post.ret ?_); simp only [go_sem, reduceCtorEq, List.length_map, e1]) | refine W.condT rfl ?_ | refine W.condF rfl ?_ | refine W.cond rfl (fun h => ?_) (fun h => ?_))
      | ((show AX _ _ _ _ _); first | (refine AX.pcall rfl rfl (by simp only [go_sem, unim_im]; rfl) (by solve_by_elim) rfl rfl ?_; simp only [go_sem, reduceCtorEq, List.length_map, e1]) | (refine AX.pcallF rfl rfl (by simp only [go_sem, unim_im]; rfl) (by simp only [go_sem, unim_im]; rfl) (by solve_by_elim) rfl rfl ?_; simp only [go_sem, reduceCtorEq, List.length_map, e1]) | (refine AX.lookup rfl (by first | exact tM65 | exact tM66) (by first | exact tG2 | exact tG3 | exact tG4 | exact tG5 | exact tG7 | exact tG9 | exact tG12 | exact tG13 | exact tG18 | exact tG19 | exact tG20 | exact tG21 | exact tG22 | exact tG23 | exact tG25 | exact tG26 | exact tG27 | exact tG34 | exact tG36 | exact tG37 | exact tG38 | exact tG46 | exact tG49 | exact tG50 | exact tG51 | exact tG58 | exact tG59 | exact tG65 | exact tG66 | exact tG69 | exact tG70 | exact tG72 | exact tG74 | exact tG75 | exact tG79 | exact tG80 | exact tG87 | exact tG90 | exact tG95 | exact tG96 | exact tG100 | exact tG103 | exact tG111 | exact tG117 | exact tG121 | exact tG128 | exact tG134 | exact tG142 | exact tG145 | exact tG148) (by first | exact kd9) rfl rfl rfl (by assumption) rfl ?_; simp only [go_sem, reduceCtorEq, List.length_map, e1]) | (refine AX.mapUpdate rfl rfl (by first | exact tM65 | exact tM66) (by first | exact kd9) rfl rfl rfl (by assumption) rfl (by simp only [go_sem, reduceCtorEq, List.length_map, e1]) ?_; simp only [go_sem, reduceCtorEq, List.length_map, e1]) | (refine AX.makeMap rfl (by first | exact tM65 | exact tM66) rfl ?_; simp only [go_sem, reduceCtorEq, List.length_map, e1]) | (refine AX.lenMap rfl (by first | exact tM65 | exact tM66) rfl rfl rfl ?_; simp only [go_sem, reduceCtorEq, List.length_map, e1]) | (refine AX.range rfl (by first | exact tM65 | exact tM66) rfl rfl rfl ?_; simp only [go_sem, reduceCtorEq, List.length_map, e1]) | (refine AX.appendStr rfl (by first | exact tL22 | exact tL23 | exact tL25 | exact tL34 | exact tL36 | exact tL50 | exact tL100) (by simp only [go_sem]) (by simp only [go_sem]) (by simp only [go_sem]) rfl rfl rfl rfl (by simp only [go_sem, reduceCtorEq, List.length_map, e1]; first | omega | (simp; omega)) ?_; simp only [go_sem, reduceCtorEq, List.length_map, e1]) | (refine AX.shr rfl rfl rfl rfl (by first | decide | omega) ?_; simp only [go_sem, reduceCtorEq, List.length_map, e1]) | (refine AX.shl rfl rfl rfl rfl (by first | decide | omega) ?_; simp only [go_sem, reduceCtorEq, List.length_map, e1]) | (refine AX.bits rfl rfl rfl (by assumption) rfl ?_; simp only [go_sem, reduceCtorEq, List.length_map, e1]) | (refine AX.nilSl rfl (by first | exact tL22 | exact tL23 | exact tL25 | exact tL34 | exact tL36 | exact tL50 | exact tL100) (by first | exact .inl rfl | exact .inr rfl) rfl rfl rfl ?_; simp only [go_sem, reduceCtorEq, List.length_map, e1]))
      | ((show indepK _ _ _ _ = true ∧ _); refine And.intro (by kernel_rfl) ?_)
      | ((show _ ∧ _); refine And.intro (by first | omega | assumption | (simp only [go_sem]; omega) | (simp; omega) | (simp; done)) ?_)
      | (refine hK _ ?_; clear hK K)
      | (clear hK K; refine hK _ ?_; clear hK K)
      | (clear hK K; clear hK K; refine hK _ ?_; clear hK K)
      | (clear hK K; clear hK K; clear hK K; refine hK _ ?_; clear hK K)
      | fail)
    refine hK2 i hi hinv (fun d hd => by rw [List.getElem?_eq_none (by omega)] at hd; cases hd) _ (Fits.fit [] [0, 1, 2, 6, 7] 0 rfl rfl ?_)
    simp only [go_sem]
    exact Fits.rfl
  obtain ⟨⟨q, n⟩, hx, hm, hd⟩ := drop_at hlt
  have e1 : decide ((i : Int) < l.length) = true := by simp; omega
  have e0 : decide (i < l.length) = true := by simp; omega
  have hw := w64s i (by omega)
  have c21 := comparePaths_c q p
  by_cases hc : cmpPath q p < 0
  · have e3 : decide (cmpPath q p < 0) = true := by simp [hc]
    repeat' (first
      | ((show W _ _ _ _); first | (refine W.seq fun K hK => ?_) | refine W.block ?_ | (refine W.reg rfl ?_; simp only [go_sem, reduceCtorEq, List.length_map, e0, e1, e3, hw, List.getElem?_map, hx, dlA]) | (refine W.regD Try_mo rfl rfl ?_; simp only [go_sem, reduceCtorEq, List.length_map, e0, e1, e3, hw, List.getElem?_map, hx, dlA]) | (refine W.skip ?_; simp only [go_sem]) | (refine W.exit ?_; simp only [go_sem]) | (refine W.ret (Post.ret ?_); simp only [go_sem, reduceCtorEq, List.length_map, e0, e1, e3, hw, List.getElem?_map, hx, dlA]) | refine W.condT rfl ?_ | refine W.condF rfl ?_ | refine W.cond rfl (fun h => ?_) (fun h => ?_))
      | ((show AX _ _ _ _ _); first | (refine AX.pcall rfl rfl (by simp only [go_sem, unim_im]; rfl) (by solve_by_elim) rfl rfl ?_; simp only [go_sem, reduceCtorEq, List.length_map, e0, e1, e3, hw, List.getElem?_map, hx, dlA]) | (refine AX.pcallF rfl rfl (by simp only [go_sem, unim_im]; rfl) (by simp only [go_sem, unim_im]; rfl) (by solve_by_elim) rfl rfl ?_; simp only [go_sem, reduceCtorEq, List.length_map, e0, e1, e3, hw, List.getElem?_map, hx, dlA]) | (refine AX.lookup rfl (by first | exact tM65 | exact tM66) (by first | exact tG2 | exact tG3 | exact tG4 | exact tG5 | exact tG7 | exact tG9 | exact tG12 | exact tG13 | exact tG18 | exact tG19 | exact tG20 | exact tG21 | exact tG22 | exact tG23 | exact tG25 | exact tG26 | exact tG27 | exact tG34 | exact tG36 | exact tG37 | exact tG38 | exact tG46 | exact tG49 | exact tG50 | exact tG51 | exact tG58 | exact tG59 | exact tG65 | exact tG66 | exact tG69 | exact tG70 | exact tG72 | exact tG74 | exact tG75 | exact tG79 | exact tG80 | exact tG87 | exact tG90 | exact tG95 | exact tG96 | exact tG100 | exact tG103 | exact tG111 | exact tG117 | exact tG121 | exact tG128 | exact tG134 | exact tG142 | exact tG145 | exact tG148) (by first | exact kd9) rfl rfl rfl (by assumption) rfl ?_; simp only [go_sem, reduceCtorEq, List.length_map, e0, e1, e3, hw, List.getElem?_map, hx, dlA]) | (refine AX.mapUpdate rfl rfl (by first | exact tM65 | exact tM66) (by first | exact kd9) rfl rfl rfl (by assumption) rfl (by simp only [go_sem, reduceCtorEq, List.length_map, e0, e1, e3, hw, List.getElem?_map, hx, dlA]) ?_; simp only [go_sem, reduceCtorEq, List.length_map, e0, e1, e3, hw, List.getElem?_map, hx, dlA]) | (refine AX.makeMap rfl (by first | exact tM65 | exact tM66) rfl ?_; simp only [go_sem, reduceCtorEq, List.length_map, e0, e1, e3, hw, List.getElem?_map, hx, dlA]) | (refine AX.lenMap rfl (by first | exact tM65 | exact tM66) rfl rfl rfl ?_; simp only [go_sem, reduceCtorEq, List.length_map, e0, e1, e3, hw, List.getElem?_map, hx, dlA]) | (refine AX.range rfl (by first | exact tM65 | exact tM66) rfl rfl rfl ?_; simp only [go_sem, reduceCtorEq, List.length_map, e0, e1, e3, hw, List.getElem?_map, hx, dlA]) | (refine AX.appendStr rfl (by first | exact tL22 | exact tL23 | exact tL25 | exact tL34 | exact tL36 | exact tL50 | exact tL100) (by simp only [go_sem]) (by simp only [go_sem]) (by simp only [go_sem]) rfl rfl rfl rfl (by simp only [go_sem, reduceCtorEq, List.length_map, e0, e1, e3, hw, List.getElem?_map, hx, dlA]; first | omega | (simp; omega)) ?_; simp only [go_sem, reduceCtorEq, List.length_map, e0, e1, e3, hw, List.getElem?_map, hx, dlA]) | (refine AX.shr rfl rfl rfl rfl (by first | decide | omega) ?_; simp only [go_sem, reduceCtorEq, List.length_map, e0, e1, e3, hw, List.getElem?_map, hx, dlA]) | (refine AX.shl rfl rfl rfl rfl (by first | decide | omega) ?_; simp only [go_sem, reduceCtorEq, List.length_map, e0, e1, e3, hw, List.getElem?_map, hx, dlA]) | (refine AX.bits rfl rfl rfl (by assumption) rfl ?_; simp only [go_sem, reduceCtorEq, List.length_map, e0, e1, e3, hw, List.getElem?_map, hx, dlA]) | (refine AX.nilSl rfl (by first | exact tL22 | exact tL23 | exact tL25 | exact tL34 | exact tL36 | exact tL50 | exact tL100) (by first | exact .inl rfl | exact .inr rfl) rfl rfl rfl ?_; simp only [go_sem, reduceCtorEq, List.length_map, e0, e1, e3, hw, List.getElem?_map, hx, dlA]))
      | ((show indepK _ _ _ _ = true ∧ _); refine And.intro (by kernel_rfl) ?_)
      | ((show _ ∧ _); refine And.intro (by first | omega | assumption | (simp only [go_sem]; omega) | (simp; omega) | (simp; done)) ?_)
      | (refine hK _ ?_; clear hK K)
      | (clear hK K; refine hK _ ?_; clear hK K)
      | (clear hK K; clear hK K; refine hK _ ?_; clear hK K)
      | (clear hK K; clear hK K; clear hK K; refine hK _ ?_; clear hK K)
      | fail)
    refine hKL.to (i + 1) ⟨by omega, ?_⟩ (by omega) (Fits.fit [] [0, 1, 2, 6, 7] 0 rfl rfl ?_)
    · rw [hinv, withD_at hx hc]
    · simp only [go_sem]
      exact Fits.rfl
  · have e3 : decide (cmpPath q p < 0) = false := by simp [hc]
    repeat' (first
      | ((show W _ _ _ _); first | (refine W.seq fun K hK => ?_) | refine W.block ?_ | (refine W.reg rfl ?_; simp only [go_sem, reduceCtorEq, List.length_map, e0, e1, e3, hw, List.getElem?_map, hx, dlA]) | (refine W.regD Try_mo rfl rfl ?_; simp only [go_sem, reduceCtorEq, List.length_map, e0, e1, e3, hw, List.getElem?_map, hx, dlA]) | (refine W.skip ?_; simp only [go_sem]) | (refine W.exit ?_; simp only [go_sem]) | (refine W.ret (Post.ret ?_); simp only [go_sem, reduceCtorEq, List.length_map, e0, e1, e3, hw, List.getElem?_map, hx, dlA]) | refine W.condT rfl ?_ | refine W.condF rfl ?_ | refine W.cond rfl (fun h => ?_) (fun h => ?_))
      | ((show AX _ _ _ _ _); first | (refine AX.pcall rfl rfl (by simp only [go_sem, unim_im]; rfl) (by solve_by_elim) rfl rfl ?_; simp only [go_sem, reduceCtorEq, List.length_map, e0, e1, e3, hw, List.getElem?_map, hx, dlA]) | (refine AX.pcallF rfl rfl (by simp only [go_sem, unim_im]; rfl) (by simp only [go_sem, unim_im]; rfl) (by solve_by_elim) rfl rfl ?_; simp only [go_sem, reduceCtorEq, List.length_map, e0, e1, e3, hw, List.getElem?_map, hx, dlA]) | (refine AX.lookup rfl (by first | exact tM65 | exact tM66) (by first | exact tG2 | exact tG3 | exact tG4 | exact tG5 | exact tG7 | exact tG9 | exact tG12 | exact tG13 | exact tG18 | exact tG19 | exact tG20 | exact tG21 | exact tG22 | exact tG23 | exact tG25 | exact tG26 | exact tG27 | exact tG34 | exact tG36 | exact tG37 | exact tG38 | exact tG46 | exact tG49 | exact tG50 | exact tG51 | exact tG58 | exact tG59 | exact tG65 | exact tG66 | exact tG69 | exact tG70 | exact tG72 | exact tG74 | exact tG75 | exact tG79 | exact tG80 | exact tG87 | exact tG90 | exact tG95 | exact tG96 | exact tG100 | exact tG103 | exact tG111 | exact tG117 | exact tG121 | exact tG128 | exact tG134 | exact tG142 | exact tG145 | exact tG148) (by first | exact kd9) rfl rfl rfl (by assumption) rfl ?_; simp only [go_sem, reduceCtorEq, List.length_map, e0, e1, e3, hw, List.getElem?_map, hx, dlA]) | (refine AX.mapUpdate rfl rfl (by first | exact tM65 | exact tM66) (by first | exact kd9) rfl rfl rfl (by assumption) rfl (by simp only [go_sem, reduceCtorEq, List.length_map, e0, e1, e3, hw, List.getElem?_map, hx, dlA]) ?_; simp only [go_sem, reduceCtorEq, List.length_map, e0, e1, e3, hw, List.getElem?_map, hx, dlA]) | (refine AX.makeMap rfl (by first | exact tM65 | exact tM66) rfl ?_; simp only [go_sem, reduceCtorEq, List.length_map, e0, e1, e3, hw, List.getElem?_map, hx, dlA]) | (refine AX.lenMap rfl (by first | exact tM65 | exact tM66) rfl rfl rfl ?_; simp only [go_sem, reduceCtorEq, List.length_map, e0, e1, e3, hw, List.getElem?_map, hx, dlA]) | (refine AX.range rfl (by first | exact tM65 | exact tM66) rfl rfl rfl ?_; simp only [go_sem, reduceCtorEq, List.length_map, e0, e1, e3, hw, List.getElem?_map, hx, dlA]) | (refine AX.appendStr rfl (by first | exact tL22 | exact tL23 | exact tL25 | exact tL34 | exact tL36 | exact tL50 | exact tL100) (by simp only [go_sem]) (by simp only [go_sem]) (by simp only [go_sem]) rfl rfl rfl rfl (by simp only [go_sem, reduceCtorEq, List.length_map, e0, e1, e3, hw, List.getElem?_map, hx, dlA]; first | omega | (simp; omega)) ?_; simp only [go_sem, reduceCtorEq, List.length_map, e0, e1, e3, hw, List.getElem?_map, hx, dlA]) | (refine AX.shr rfl rfl rfl rfl (by first | decide | omega) ?_; simp only [go_sem, reduceCtorEq, List.length_map, e0, e1, e3, hw, List.getElem?_map, hx, dlA]) | (refine AX.shl rfl rfl rfl rfl (by first | decide | omega) ?_; simp only [go_sem, reduceCtorEq, List.length_map, e0, e1, e3, hw, List.getElem?_map, hx, dlA]) | (refine AX.bits rfl rfl rfl (by assumption) rfl ?_; simp only [go_sem, reduceCtorEq, List.length_map, e0, e1, e3, hw, List.getElem?_map, hx, dlA]) | (refine AX.nilSl rfl (by first | exact tL22 | exact tL23 | exact tL25 | exact tL34 | exact tL36 | exact tL50 | exact tL100) (by first | exact .inl rfl | exact .inr rfl) rfl rfl rfl ?_; simp only [go_sem, reduceCtorEq, List.length_map, e0, e1, e3, hw, List.getElem?_map, hx, dlA]))
      | ((show indepK _ _ _ _ = true ∧ _); refine And.intro (by kernel_rfl) ?_)
      | ((show _ ∧ _); refine And.intro (by first | omega | assumption | (simp only [go_sem]; omega) | (simp; omega) | (simp; done)) ?_)
      | (refine hK _ ?_; clear hK K)
      | (clear hK K; refine hK _ ?_; clear hK K)
      | (clear hK K; clear hK K; refine hK _ ?_; clear hK K)
      | (clear hK K; clear hK K; clear hK K; refine hK _ ?_; clear hK K)
      | fail)
    refine hK2 i hi hinv (fun d hd => by rw [hx] at hd; cases hd; exact hc) _ (Fits.fit [] [0, 1, 2, 6, 7] 0 rfl rfl ?_)
    simp only [go_sem]
    exact Fits.rfl
end Go.Proofs.Ytegcmciglakicaa
namespace Go.Proofs.Ytegcmciglakicaa
open Go.RowKit Go.Exe
set_option linter.unusedVariables false
set_option linter.unusedSimpArgs false
set_option maxHeartbeats 1000000
set_option maxRecDepth 100000
attribute [local irreducible] W AX Run RunD AStep AOp AOpX AStB AStH AStG Fits PCall GCall PostG Post Stop

theorem withD_len (p : List Nm) (b : Int) : ∀ ds : List Dl, (withD p b ds).length ≤ ds.length + 1
  | [] => by simp only [withD]; split <;> simp
  | d :: r => by
    have := withD_len p b r
    simp only [withD]
    split
    · simp; omega
    · split
      · split <;> simp; omega
      · split <;> simp
mutual
theorem pathsD_len (b : Int) : ∀ (x : Shp) (above : List Nm) (ds : List Dl), (x.pathsD b above ds).length ≤ ds.length + x.size
  | .mk s o ks, above, ds => by
    have h1 := pathssD_len b ks (above ++ [(s, o)]) (withD (above ++ [(s, o)]) b ds)
    have h2 := withD_len (above ++ [(s, o)]) b ds
    simp only [Shp.pathsD, Shp.size]
    omega
theorem pathssD_len (b : Int) : ∀ (l : List Shp) (path : List Nm) (ds : List Dl), (pathssD b l path ds).length ≤ ds.length + sizes l
  | [], path, ds => by simp [pathssD, sizes]
  | x :: r, path, ds => by
    have h1 := pathssD_len b r path (x.pathsD b path ds)
    have h2 := pathsD_len b x path ds
    simp only [pathssD, sizes]
    omega
end
theorem pathssD_app (b : Int) : ∀ (l m : List Shp) (path : List Nm) (ds : List Dl), pathssD b (l ++ m) path ds = pathssD b m path (pathssD b l path ds)
  | [], _, _, _ => rfl
  | x :: r, m, path, ds => by simp [pathssD, pathssD_app b r m]
theorem paths_step (s o : ByteArray) (ks : List Shp) (above : List Nm) (l : List Dl) (b : Int) (hl : l.length + above.length + 2 * (Shp.mk s o ks).size + 1 ≤ 4398046511104)
    (ih : ∀ x ∈ ks, ∀ (above : List Nm) (l : List Dl), l.length + above.length + 2 * x.size + 1 ≤ 4398046511104 → PCall Try.prog 25 [lsT l, shT x, .c (.im (.sl 59 (above.map nmA))), ft (.int .i64 b)] (lsT (x.pathsD b above l))) :
    PCall Try.prog 25 [lsT l, shT (.mk s o ks), .c (.im (.sl 59 (above.map nmA))), ft (.int .i64 b)] (lsT ((Shp.mk s o ks).pathsD b above l)) := by
  simp only [Shp.size] at hl
  have c22 := with_c l (above ++ [(s, o)]) b (by omega)
  have hwl := withD_len (above ++ [(s, o)]) b l
  have hks := sizes_len ks
  have hpath : above.map nmA ++ [[AV.flat (.string s), AV.flat (.string o)]] = (above ++ [(s, o)]).map nmA := by simp [nmA]
  simp only [shT_mk, Shp.pathsD, lsT] at *
  have hb1 : (above.map nmA).length * 32 ≤ 140737488355328 := by rw [List.length_map]; omega
  have hb2 : ((above.map nmA).length + 1) * 32 ≤ 140737488355328 := by rw [List.length_map]; omega
  refine PCall.intro (nt := 42) (rs := [.tmp 8]) Try.func25 rfl ⟨by kernel_rfl, by kernel_rfl, by kernel_rfl⟩ (by simp) ?_
  rintro ⟨P, w0, ok0, may, np, pblk⟩ rfl rfl
  repeat' (first
    | ((show W _ _ _ _); first | (refine W.seq fun K hK => ?_) | refine W.block ?_ | (refine W.reg rfl ?_; simp only [go_sem, reduceCtorEq, imR_sn2, hpath]) | (refine W.regD Try_mo rfl rfl ?_; simp only [go_sem, reduceCtorEq, imR_sn2, hpath]) | (refine W.skip ?_; simp only [go_sem]) | (refine W.exit ?_; simp only [go_sem]) | (refine W.ret (Post.ret ?_); simp only [go_sem, reduceCtorEq, imR_sn2, hpath]) | refine W.condT rfl ?_ | refine W.condF rfl ?_ | refine W.cond rfl (fun h => ?_) (fun h => ?_))
    | ((show AX _ _ _ _ _); first | (refine AX.pcall rfl rfl (by simp only [go_sem, unim_im]; rfl) (by solve_by_elim) rfl rfl ?_; simp only [go_sem, reduceCtorEq, imR_sn2, hpath]) | (refine AX.pcallF rfl rfl (by simp only [go_sem, unim_im]; rfl) (by simp only [go_sem, unim_im]; rfl) (by solve_by_elim) rfl rfl ?_; simp only [go_sem, reduceCtorEq, imR_sn2, hpath]) | (refine AX.lookup rfl (by first | exact tM65 | exact tM66) (by first | exact tG2 | exact tG3 | exact tG4 | exact tG5 | exact tG7 | exact tG9 | exact tG12 | exact tG13 | exact tG18 | exact tG19 | exact tG20 | exact tG21 | exact tG22 | exact tG23 | exact tG25 | exact tG26 | exact tG27 | exact tG34 | exact tG36 | exact tG37 | exact tG38 | exact tG46 | exact tG49 | exact tG50 | exact tG51 | exact tG58 | exact tG59 | exact tG65 | exact tG66 | exact tG69 | exact tG70 | exact tG72 | exact tG74 | exact tG75 | exact tG79 | exact tG80 | exact tG87 | exact tG90 | exact tG95 | exact tG96 | exact tG100 | exact tG103 | exact tG111 | exact tG117 | exact tG121 | exact tG128 | exact tG134 | exact tG142 | exact tG145 | exact tG148) (by first | exact kd9) rfl rfl rfl (by assumption) rfl ?_; simp only [go_sem, reduceCtorEq, imR_sn2, hpath]) | (refine AX.mapUpdate rfl rfl (by first | exact tM65 | exact tM66) (by first | exact kd9) rfl rfl rfl (by assumption) rfl (by simp only [go_sem, reduceCtorEq, imR_sn2, hpath]) ?_; simp only [go_sem, reduceCtorEq, imR_sn2, hpath]) | (refine AX.makeMap rfl (by first | exact tM65 | exact tM66) rfl ?_; simp only [go_sem, reduceCtorEq, imR_sn2, hpath]) | (refine AX.lenMap rfl (by first | exact tM65 | exact tM66) rfl rfl rfl ?_; simp only [go_sem, reduceCtorEq, imR_sn2, hpath]) | (refine AX.range rfl (by first | exact tM65 | exact tM66) rfl rfl rfl ?_; simp only [go_sem, reduceCtorEq, imR_sn2, hpath]) | (refine AX.appendStr rfl (by first | exact tL22 | exact tL23 | exact tL25 | exact tL34 | exact tL36 | exact tL50 | exact tL100) (by simp only [go_sem]) (by simp only [go_sem]) (by simp only [go_sem]) rfl rfl rfl rfl (by simp only [go_sem, reduceCtorEq, imR_sn2, hpath]; first | omega | (simp; omega)) ?_; simp only [go_sem, reduceCtorEq, imR_sn2, hpath]) | (refine AX.shr rfl rfl rfl rfl (by first | decide | omega) ?_; simp only [go_sem, reduceCtorEq, imR_sn2, hpath]) | (refine AX.shl rfl rfl rfl rfl (by first | decide | omega) ?_; simp only [go_sem, reduceCtorEq, imR_sn2, hpath]) | (refine AX.bits rfl rfl rfl (by assumption) rfl ?_; simp only [go_sem, reduceCtorEq, imR_sn2, hpath]) | (refine AX.nilSl rfl (by first | exact tL22 | exact tL23 | exact tL25 | exact tL34 | exact tL36 | exact tL50 | exact tL100) (by first | exact .inl rfl | exact .inr rfl) rfl rfl rfl ?_; simp only [go_sem, reduceCtorEq, imR_sn2, hpath]))
    | ((show indepK _ _ _ _ = true ∧ _); refine And.intro (by kernel_rfl) ?_)
    | ((show _ ∧ _); refine And.intro (by first | omega | assumption | (simp only [go_sem]; omega) | (simp; omega) | (simp; done)) ?_)
    | (refine hK _ ?_; clear hK K)
    | (clear hK K; refine hK _ ?_; clear hK K)
    | (clear hK K; clear hK K; refine hK _ ?_; clear hK K)
    | (clear hK K; clear hK K; clear hK K; refine hK _ ?_; clear hK K)
    | fail)
  generalize hh : above ++ [(s, o)] = here at *
  have hal : here.length = above.length + 1 := by rw [← hh]; simp
  clear hpath
  refine W.lenX 0 2 rfl rfl tE27 fun hlen hbytes => ?_
  rw [avs_len, maxLen_is] at hlen
  refine W.loopF (T := fun i : Nat => { t := [(0, .c (.im (.sl 38 ((pathssD b (ks.take i) here (withD here b l)).map dlA)))), (3, ft (.int .i64 b)), (5, .c (.ptr 0 0)), (8, ft (.slice none 0 0)), (9, .c (.ref 1)), (10, ft (.int .i64 (i : Nat)))], h := [(0, .box 27 [fl (.string s), fl (.string o), .im (.sl 27 (avs ks))]), (1, .fro (.sl 59 (here.map nmA)))], nx := 2, ex := [], nt := 42 })
    (Inv := fun i => i ≤ ks.length) (μ := fun i => ks.length - i) (x0 := 0) (Fits.fit [(0, 0), (11, 1)] [0, 3, 5, 8, 9, 10] 2 rfl rfl ?_) (Nat.zero_le _) ?_
  · simp only [go_sem, pathssD]
    exact Fits.rfl
  intro i hi KL hKL
  by_cases hlt : i < ks.length
  · obtain ⟨⟨s', o', ks'⟩, hx, hm, hd⟩ := drop_at hlt
    have e1 : decide ((i : Int) < ks.length) = true := by simp; omega
    have hw := w64s i (by omega)
    have h1 := pathssD_len b (ks.take i) here (withD here b l)
    have h2 := sizes_at hx
    have h3 := sizes_take ks (i + 1)
    have hc := ih _ hm here (pathssD b (ks.take i) here (withD here b l)) (by omega)
    simp only [shT_mk] at hc
    repeat' (first
      | ((show W _ _ _ _); first | (refine W.seq fun K hK => ?_) | refine W.block ?_ | (refine W.reg rfl ?_; simp only [go_sem, reduceCtorEq, avs_len, avs_get, hx, Shp.av, e1, hw]) | (refine W.regD Try_mo rfl rfl ?_; simp only [go_sem, reduceCtorEq, avs_len, avs_get, hx, Shp.av, e1, hw]) | (refine W.skip ?_; simp only [go_sem]) | (refine W.exit ?_; simp only [go_sem]) | (refine W.ret (Post.ret ?_); simp only [go_sem, reduceCtorEq, avs_len, avs_get, hx, Shp.av, e1, hw]) | refine W.condT rfl ?_ | refine W.condF rfl ?_ | refine W.cond rfl (fun h => ?_) (fun h => ?_))
      | ((show AX _ _ _ _ _); first | (refine AX.pcall rfl rfl (by simp only [go_sem, unim_im]; rfl) (by solve_by_elim) rfl rfl ?_; simp only [go_sem, reduceCtorEq, avs_len, avs_get, hx, Shp.av, e1, hw]) | (refine AX.pcallF rfl rfl (by simp only [go_sem, unim_im]; rfl) (by simp only [go_sem, unim_im]; rfl) (by solve_by_elim) rfl rfl ?_; simp only [go_sem, reduceCtorEq, avs_len, avs_get, hx, Shp.av, e1, hw]) | (refine AX.lookup rfl (by first | exact tM65 | exact tM66) (by first | exact tG2 | exact tG3 | exact tG4 | exact tG5 | exact tG7 | exact tG9 | exact tG12 | exact tG13 | exact tG18 | exact tG19 | exact tG20 | exact tG21 | exact tG22 | exact tG23 | exact tG25 | exact tG26 | exact tG27 | exact tG34 | exact tG36 | exact tG37 | exact tG38 | exact tG46 | exact tG49 | exact tG50 | exact tG51 | exact tG58 | exact tG59 | exact tG65 | exact tG66 | exact tG69 | exact tG70 | exact tG72 | exact tG74 | exact tG75 | exact tG79 | exact tG80 | exact tG87 | exact tG90 | exact tG95 | exact tG96 | exact tG100 | exact tG103 | exact tG111 | exact tG117 | exact tG121 | exact tG128 | exact tG134 | exact tG142 | exact tG145 | exact tG148) (by first | exact kd9) rfl rfl rfl (by assumption) rfl ?_; simp only [go_sem, reduceCtorEq, avs_len, avs_get, hx, Shp.av, e1, hw]) | (refine AX.mapUpdate rfl rfl (by first | exact tM65 | exact tM66) (by first | exact kd9) rfl rfl rfl (by assumption) rfl (by simp only [go_sem, reduceCtorEq, avs_len, avs_get, hx, Shp.av, e1, hw]) ?_; simp only [go_sem, reduceCtorEq, avs_len, avs_get, hx, Shp.av, e1, hw]) | (refine AX.makeMap rfl (by first | exact tM65 | exact tM66) rfl ?_; simp only [go_sem, reduceCtorEq, avs_len, avs_get, hx, Shp.av, e1, hw]) | (refine AX.lenMap rfl (by first | exact tM65 | exact tM66) rfl rfl rfl ?_; simp only [go_sem, reduceCtorEq, avs_len, avs_get, hx, Shp.av, e1, hw]) | (refine AX.range rfl (by first | exact tM65 | exact tM66) rfl rfl rfl ?_; simp only [go_sem, reduceCtorEq, avs_len, avs_get, hx, Shp.av, e1, hw]) | (refine AX.appendStr rfl (by first | exact tL22 | exact tL23 | exact tL25 | exact tL34 | exact tL36 | exact tL50 | exact tL100) (by simp only [go_sem]) (by simp only [go_sem]) (by simp only [go_sem]) rfl rfl rfl rfl (by simp only [go_sem, reduceCtorEq, avs_len, avs_get, hx, Shp.av, e1, hw]; first | omega | (simp; omega)) ?_; simp only [go_sem, reduceCtorEq, avs_len, avs_get, hx, Shp.av, e1, hw]) | (refine AX.shr rfl rfl rfl rfl (by first | decide | omega) ?_; simp only [go_sem, reduceCtorEq, avs_len, avs_get, hx, Shp.av, e1, hw]) | (refine AX.shl rfl rfl rfl rfl (by first | decide | omega) ?_; simp only [go_sem, reduceCtorEq, avs_len, avs_get, hx, Shp.av, e1, hw]) | (refine AX.bits rfl rfl rfl (by assumption) rfl ?_; simp only [go_sem, reduceCtorEq, avs_len, avs_get, hx, Shp.av, e1, hw]) | (refine AX.nilSl rfl (by first | exact tL22 | exact tL23 | exact tL25 | exact tL34 | exact tL36 | exact tL50 | exact tL100) (by first | exact .inl rfl | exact .inr rfl) rfl rfl rfl ?_; simp only [go_sem, reduceCtorEq, avs_len, avs_get, hx, Shp.av, e1, hw]))
      | ((show indepK _ _ _ _ = true ∧ _); refine And.intro (by kernel_rfl) ?_)
      | ((show _ ∧ _); refine And.intro (by first | omega | assumption | (simp only [go_sem]; omega) | (simp; omega) | (simp; done)) ?_)
      | (refine hK _ ?_; clear hK K)
      | (clear hK K; refine hK _ ?_; clear hK K)
      | (clear hK K; clear hK K; refine hK _ ?_; clear hK K)
      | (clear hK K; clear hK K; clear hK K; refine hK _ ?_; clear hK K)
      | fail)
    refine hKL.to (i + 1) (by omega) (by omega) (Fits.fit [(0, 0), (1, 1)] [0, 3, 5, 8, 9, 10] 2 rfl rfl ?_)
    simp only [go_sem, take_at hx, pathssD_app, pathssD]
    exact Fits.rfl
  · have e1 : decide ((i : Int) < ks.length) = false := by simp; omega
    obtain rfl : i = ks.length := by omega
    clear hKL
    repeat' (first
      | ((show W _ _ _ _); first | (refine W.seq fun K hK => ?_) | refine W.block ?_ | (refine W.reg rfl ?_; simp only [go_sem, reduceCtorEq, avs_len, e1]) | (refine W.regD Try_mo rfl rfl ?_; simp only [go_sem, reduceCtorEq, avs_len, e1]) | (refine W.skip ?_; simp only [go_sem]) | (refine W.exit ?_; simp only [go_sem]) | (refine W.ret (Post.ret ?_); simp only [go_sem, reduceCtorEq, avs_len, e1]) | refine W.condT rfl ?_ | refine W.condF rfl ?_ | refine W.cond rfl (fun h => ?_) (fun h => ?_))
      | ((show AX _ _ _ _ _); first | (refine AX.pcall rfl rfl (by simp only [go_sem, unim_im]; rfl) (by solve_by_elim) rfl rfl ?_; simp only [go_sem, reduceCtorEq, avs_len, e1]) | (refine AX.pcallF rfl rfl (by simp only [go_sem, unim_im]; rfl) (by simp only [go_sem, unim_im]; rfl) (by solve_by_elim) rfl rfl ?_; simp only [go_sem, reduceCtorEq, avs_len, e1]) | (refine AX.lookup rfl (by first | exact tM65 | exact tM66) (by first | exact tG2 | exact tG3 | exact tG4 | exact tG5 | exact tG7 | exact tG9 | exact tG12 | exact tG13 | exact tG18 | exact tG19 | exact tG20 | exact tG21 | exact tG22 | exact tG23 | exact tG25 | exact tG26 | exact tG27 | exact tG34 | exact tG36 | exact tG37 | exact tG38 | exact tG46 | exact tG49 | exact tG50 | exact tG51 | exact tG58 | exact tG59 | exact tG65 | exact tG66 | exact tG69 | exact tG70 | exact tG72 | exact tG74 | exact tG75 | exact tG79 | exact tG80 | exact tG87 | exact tG90 | exact tG95 | exact tG96 | exact tG100 | exact tG103 | exact tG111 | exact tG117 | exact tG121 | exact tG128 | exact tG134 | exact tG142 | exact tG145 | exact tG148) (by first | exact kd9) rfl rfl rfl (by assumption) rfl ?_; simp only [go_sem, reduceCtorEq, avs_len, e1]) | (refine AX.mapUpdate rfl rfl (by first | exact tM65 | exact tM66) (by first | exact kd9) rfl rfl rfl (by assumption) rfl (by simp only [go_sem, reduceCtorEq, avs_len, e1]) ?_; simp only [go_sem, reduceCtorEq, avs_len, e1]) | (refine AX.makeMap rfl (by first | exact tM65 | exact tM66) rfl ?_; simp only [go_sem, reduceCtorEq, avs_len, e1]) | (refine AX.lenMap rfl (by first | exact tM65 | exact tM66) rfl rfl rfl ?_; simp only [go_sem, reduceCtorEq, avs_len, e1]) | (refine AX.range rfl (by first | exact tM65 | exact tM66) rfl rfl rfl ?_; simp only [go_sem, reduceCtorEq, avs_len, e1]) | (refine AX.appendStr rfl (by first | exact tL22 | exact tL23 | exact tL25 | exact tL34 | exact tL36 | exact tL50 | exact tL100) (by simp only [go_sem]) (by simp only [go_sem]) (by simp only [go_sem]) rfl rfl rfl rfl (by simp only [go_sem, reduceCtorEq, avs_len, e1]; first | omega | (simp; omega)) ?_; simp only [go_sem, reduceCtorEq, avs_len, e1]) | (refine AX.shr rfl rfl rfl rfl (by first | decide | omega) ?_; simp only [go_sem, reduceCtorEq, avs_len, e1]) | (refine AX.shl rfl rfl rfl rfl (by first | decide | omega) ?_; simp only [go_sem, reduceCtorEq, avs_len, e1]) | (refine AX.bits rfl rfl rfl (by assumption) rfl ?_; simp only [go_sem, reduceCtorEq, avs_len, e1]) | (refine AX.nilSl rfl (by first | exact tL22 | exact tL23 | exact tL25 | exact tL34 | exact tL36 | exact tL50 | exact tL100) (by first | exact .inl rfl | exact .inr rfl) rfl rfl rfl ?_; simp only [go_sem, reduceCtorEq, avs_len, e1]))
      | ((show indepK _ _ _ _ = true ∧ _); refine And.intro (by kernel_rfl) ?_)
      | ((show _ ∧ _); refine And.intro (by first | omega | assumption | (simp only [go_sem]; omega) | (simp; omega) | (simp; done)) ?_)
      | (refine hK _ ?_; clear hK K)
      | (clear hK K; refine hK _ ?_; clear hK K)
      | (clear hK K; clear hK K; refine hK _ ?_; clear hK K)
      | (clear hK K; clear hK K; clear hK K; refine hK _ ?_; clear hK K)
      | fail)
    simp
theorem paths_m : ∀ (x : Shp) (above : List Nm) (l : List Dl) (b : Int), l.length + above.length + 2 * x.size + 1 ≤ 4398046511104 → PCall Try.prog 25 [lsT l, shT x, .c (.im (.sl 59 (above.map nmA))), ft (.int .i64 b)] (lsT (x.pathsD b above l))
  | .mk s o ks, above, l, b, h => paths_step s o ks above l b h fun x hx above l h => paths_m x above l b h
termination_by x => SizeOf.sizeOf x
decreasing_by
  have := List.sizeOf_lt_of_mem hx
  simp only [Shp.mk.sizeOf_spec]
  omega
theorem paths_1 (x : Shp) (l : List Dl) (b : Int) (h : l.length + 2 * x.size + 1 ≤ 4398046511104) : PCall Try.prog 25 [lsT l, shT x, ft (.slice none 0 0), ft (.int .i64 b)] (lsT (x.pathsD b [] l)) :=
  PCall.conv (paths_m x [] l b (by simpa using h)) (Al.cons TLe.rfl (Al.cons TLe.rfl (Al.cons (TLe.c CLe.nil) (Al.cons TLe.rfl Al.nil)))) TLe.rfl
theorem paths_0 (x : Shp) (b : Int) (h : 2 * x.size + 1 ≤ 4398046511104) : PCall Try.prog 25 [ft (.slice none 0 0), shT x, ft (.slice none 0 0), ft (.int .i64 b)] (lsT (x.pathsD b [] [])) :=
  PCall.conv (paths_1 x [] b (by simpa using h)) (Al.cons (TLe.c CLe.nil) (Al.cons TLe.rfl (Al.cons TLe.rfl (Al.cons TLe.rfl Al.nil)))) TLe.rfl
theorem deltas_c (xs ys : List Dl) : PCall Try.prog 23 [lsT xs, lsT ys] (ft (.bool (decide (xs = ys)))) := by
  simp only [lsT]
  refine PCall.intro (nt := 42) (rs := [.tmp 4]) Try.func23 rfl ⟨by kernel_rfl, by kernel_rfl, by kernel_rfl⟩ (by simp) ?_
  rintro ⟨P, w0, ok0, may, np, pblk⟩ rfl rfl
  refine W.lenIm 0 rfl fun hlen => ?_
  refine W.lenIm 1 rfl fun hlen' => ?_
  rw [List.length_map, maxLen_is] at hlen hlen'
  by_cases hl : xs.length = ys.length
  rotate_left
  · have e1 : ((xs.length : Int) != (ys.length : Int)) = true := by simp; omega
    repeat' (first
      | ((show W _ _ _ _); first | (refine W.seq fun K hK => ?_) | refine W.block ?_ | (refine W.reg rfl ?_; simp only [go_sem, reduceCtorEq, List.length_map, e1]) | (refine W.regD Try_mo rfl rfl ?_; simp only [go_sem, reduceCtorEq, List.length_map, e1]) | (refine W.skip ?_; simp only [go_sem]) | (refine W.exit ?_; simp only [go_sem]) | (refine W.ret (Post.ret ?_); simp only [go_sem, reduceCtorEq, List.length_map, e1]) | refine W.condT rfl ?_ | refine W.condF rfl ?_ | refine W.cond rfl (fun h => ?_) (fun h => ?_))
      | ((show AX _ _ _ _ _); first | (refine AX.pcall rfl rfl (by simp only [go_sem, unim_im]; rfl) (by solve_by_elim) rfl rfl ?_; simp only [go_sem, reduceCtorEq, List.length_map, e1]) | (refine AX.pcallF rfl rfl (by simp only [go_sem, unim_im]; rfl) (by simp only [go_sem, unim_im]; rfl) (by solve_by_elim) rfl rfl ?_; simp only [go_sem, reduceCtorEq, List.length_map, e1]) | (refine AX.lookup rfl (by first | exact tM65 | exact tM66) (by first | exact tG2 | exact tG3 | exact tG4 | exact tG5 | exact tG7 | exact tG9 | exact tG12 | exact tG13 | exact tG18 | exact tG19 | exact tG20 | exact tG21 | exact tG22 | exact tG23 | exact tG25 | exact tG26 | exact tG27 | exact tG34 | exact tG36 | exact tG37 | exact tG38 | exact tG46 | exact tG49 | exact tG50 | exact tG51 | exact tG58 | exact tG59 | exact tG65 | exact tG66 | exact tG69 | exact tG70 | exact tG72 | exact tG74 | exact tG75 | exact tG79 | exact tG80 | exact tG87 | exact tG90 | exact tG95 | exact tG96 | exact tG100 | exact tG103 | exact tG111 | exact tG117 | exact tG121 | exact tG128 | exact tG134 | exact tG142 | exact tG145 | exact tG148) (by first | exact kd9) rfl rfl rfl (by assumption) rfl ?_; simp only [go_sem, reduceCtorEq, List.length_map, e1]) | (refine AX.mapUpdate rfl rfl (by first | exact tM65 | exact tM66) (by first | exact kd9) rfl rfl rfl (by assumption) rfl (by simp only [go_sem, reduceCtorEq, List.length_map, e1]) ?_; simp only [go_sem, reduceCtorEq, List.length_map, e1]) | (refine AX.makeMap rfl (by first | exact tM65 | exact tM66) rfl ?_; simp only [go_sem, reduceCtorEq, List.length_map, e1]) | (refine AX.lenMap rfl (by first | exact tM65 | exact tM66) rfl rfl rfl ?_; simp only [go_sem, reduceCtorEq, List.length_map, e1]) | (refine AX.range rfl (by first | exact tM65 | exact tM66) rfl rfl rfl ?_; simp only [go_sem, reduceCtorEq, List.length_map, e1]) | (refine AX.appendStr rfl (by first | exact tL22 | exact tL23 | exact tL25 | exact tL34 | exact tL36 | exact tL50 | exact tL100) (by simp only [go_sem]) (by simp only [go_sem]) (by simp only [go_sem]) rfl rfl rfl rfl (by simp only [go_sem, reduceCtorEq, List.length_map, e1]; first | omega | (simp; omega)) ?_; simp only [go_sem, reduceCtorEq, List.length_map, e1]) | (refine AX.shr rfl rfl rfl rfl (by first | decide | omega) ?_; simp only [go_sem, reduceCtorEq, List.length_map, e1]) | (refine AX.shl rfl rfl rfl rfl (by first | decide | omega) ?_; simp only [go_sem, reduceCtorEq, List.length_map, e1]) | (refine AX.bits rfl rfl rfl (by assumption) rfl ?_; simp only [go_sem, reduceCtorEq, List.length_map, e1]) | (refine AX.nilSl rfl (by first | exact tL22 | exact tL23 | exact tL25 | exact tL34 | exact tL36 | exact tL50 | exact tL100) (by first | exact .inl rfl | exact .inr rfl) rfl rfl rfl ?_; simp only [go_sem, reduceCtorEq, List.length_map, e1]))
      | ((show indepK _ _ _ _ = true ∧ _); refine And.intro (by kernel_rfl) ?_)
      | ((show _ ∧ _); refine And.intro (by first | omega | assumption | (simp only [go_sem]; omega) | (simp; omega) | (simp; done)) ?_)
      | (refine hK _ ?_; clear hK K)
      | (clear hK K; refine hK _ ?_; clear hK K)
      | (clear hK K; clear hK K; refine hK _ ?_; clear hK K)
      | (clear hK K; clear hK K; clear hK K; refine hK _ ?_; clear hK K)
      | fail)
    simp
    intro e; rw [e] at hl; exact hl rfl
  have e1 : ((xs.length : Int) != (ys.length : Int)) = false := by simp; omega
  repeat' (first
    | ((show W _ _ _ _); first | (refine W.seq fun K hK => ?_) | refine W.block ?_ | (refine W.reg rfl ?_; simp only [go_sem, reduceCtorEq, List.length_map, e1]) | (refine W.regD Try_mo rfl rfl ?_; simp only [go_sem, reduceCtorEq, List.length_map, e1]) | (refine W.skip ?_; simp only [go_sem]) | (refine W.exit ?_; simp only [go_sem]) | (refine W.ret (Post.ret ?_); simp only [go_sem, reduceCtorEq, List.length_map, e1]) | refine W.condT rfl ?_ | refine W.condF rfl ?_ | refine W.cond rfl (fun h => ?_) (fun h => ?_))
    | ((show AX _ _ _ _ _); first | (refine AX.pcall rfl rfl (by simp only [go_sem, unim_im]; rfl) (by solve_by_elim) rfl rfl ?_; simp only [go_sem, reduceCtorEq, List.length_map, e1]) | (refine AX.pcallF rfl rfl (by simp only [go_sem, unim_im]; rfl) (by simp only [go_sem, unim_im]; rfl) (by solve_by_elim) rfl rfl ?_; simp only [go_sem, reduceCtorEq, List.length_map, e1]) | (refine AX.lookup rfl (by first | exact tM65 | exact tM66) (by first | exact tG2 | exact tG3 | exact tG4 | exact tG5 | exact tG7 | exact tG9 | exact tG12 | exact tG13 | exact tG18 | exact tG19 | exact tG20 | exact tG21 | exact tG22 | exact tG23 | exact tG25 | exact tG26 | exact tG27 | exact tG34 | exact tG36 | exact tG37 | exact tG38 | exact tG46 | exact tG49 | exact tG50 | exact tG51 | exact tG58 | exact tG59 | exact tG65 | exact tG66 | exact tG69 | exact tG70 | exact tG72 | exact tG74 | exact tG75 | exact tG79 | exact tG80 | exact tG87 | exact tG90 | exact tG95 | exact tG96 | exact tG100 | exact tG103 | exact tG111 | exact tG117 | exact tG121 | exact tG128 | exact tG134 | exact tG142 | exact tG145 | exact tG148) (by first | exact kd9) rfl rfl rfl (by assumption) rfl ?_; simp only [go_sem, reduceCtorEq, List.length_map, e1]) | (refine AX.mapUpdate rfl rfl (by first | exact tM65 | exact tM66) (by first | exact kd9) rfl rfl rfl (by assumption) rfl (by simp only [go_sem, reduceCtorEq, List.length_map, e1]) ?_; simp only [go_sem, reduceCtorEq, List.length_map, e1]) | (refine AX.makeMap rfl (by first | exact tM65 | exact tM66) rfl ?_; simp only [go_sem, reduceCtorEq, List.length_map, e1]) | (refine AX.lenMap rfl (by first | exact tM65 | exact tM66) rfl rfl rfl ?_; simp only [go_sem, reduceCtorEq, List.length_map, e1]) | (refine AX.range rfl (by first | exact tM65 | exact tM66) rfl rfl rfl ?_; simp only [go_sem, reduceCtorEq, List.length_map, e1]) | (refine AX.appendStr rfl (by first | exact tL22 | exact tL23 | exact tL25 | exact tL34 | exact tL36 | exact tL50 | exact tL100) (by simp only [go_sem]) (by simp only [go_sem]) (by simp only [go_sem]) rfl rfl rfl rfl (by simp only [go_sem, reduceCtorEq, List.length_map, e1]; first | omega | (simp; omega)) ?_; simp only [go_sem, reduceCtorEq, List.length_map, e1]) | (refine AX.shr rfl rfl rfl rfl (by first | decide | omega) ?_; simp only [go_sem, reduceCtorEq, List.length_map, e1]) | (refine AX.shl rfl rfl rfl rfl (by first | decide | omega) ?_; simp only [go_sem, reduceCtorEq, List.length_map, e1]) | (refine AX.bits rfl rfl rfl (by assumption) rfl ?_; simp only [go_sem, reduceCtorEq, List.length_map, e1]) | (refine AX.nilSl rfl (by first | exact tL22 | exact tL23 | exact tL25 | exact tL34 | exact tL36 | exact tL50 | exact tL100) (by first | exact .inl rfl | exact .inr rfl) rfl rfl rfl ?_; simp only [go_sem, reduceCtorEq, List.length_map, e1]))
    | ((show indepK _ _ _ _ = true ∧ _); refine And.intro (by kernel_rfl) ?_)
    | ((show _ ∧ _); refine And.intro (by first | omega | assumption | (simp only [go_sem]; omega) | (simp; omega) | (simp; done)) ?_)
    | (refine hK _ ?_; clear hK K)
    | (clear hK K; refine hK _ ?_; clear hK K)
    | (clear hK K; clear hK K; refine hK _ ?_; clear hK K)
    | (clear hK K; clear hK K; clear hK K; refine hK _ ?_; clear hK K)
    | fail)
  refine W.loopF (T := fun i : Nat => { t := [(0, .c (.im (.sl 38 (xs.map dlA)))), (1, .c (.im (.sl 38 (ys.map dlA)))), (4, ft (.bool false)), (5, ft (.int .i64 (i : Nat)))], h := [], nx := 0, ex := [], nt := 42 })
    (Inv := fun i => i ≤ xs.length ∧ xs.take i = ys.take i) (μ := fun i => xs.length - i) (x0 := 0) (Fits.fit [] [0, 1, 4, 5] 0 rfl rfl ?_) ⟨Nat.zero_le _, rfl⟩ ?_
  · simp only [go_sem]
    exact Fits.rfl
  rintro i ⟨hi, hinv⟩ KL hKL
  by_cases hlt : i < xs.length
  rotate_left
  · have e2 : decide ((i : Int) < xs.length) = false := by simp; omega
    clear hKL
    repeat' (first
      | ((show W _ _ _ _); first | (refine W.seq fun K hK => ?_) | refine W.block ?_ | (refine W.reg rfl ?_; simp only [go_sem, reduceCtorEq, List.length_map, e2]) | (refine W.regD Try_mo rfl rfl ?_; simp only [go_sem, reduceCtorEq, List.length_map, e2]) | (refine W.skip ?_; simp only [go_sem]) | (refine W.exit ?_; simp only [go_sem]) | (refine W.ret (Post.ret ?_); simp only [go_sem, reduceCtorEq, List.length_map, e2]) | refine W.condT rfl ?_ | refine W.condF rfl ?_ | refine W.cond rfl (fun h => ?_) (fun h => ?_))
      | ((show AX _ _ _ _ _); first | (refine AX.pcall rfl rfl (by simp only [go_sem, unim_im]; rfl) (by solve_by_elim) rfl rfl ?_; simp only [go_sem, reduceCtorEq, List.length_map, e2]) | (refine AX.pcallF rfl rfl (by simp only [go_sem, unim_im]; rfl) (by simp only [go_sem, unim_im]; rfl) (by solve_by_elim) rfl rfl ?_; simp only [go_sem, reduceCtorEq, List.length_map, e2]) | (refine AX.lookup rfl (by first | exact tM65 | exact tM66) (by first | exact tG2 | exact tG3 | exact tG4 | exact tG5 | exact tG7 | exact tG9 | exact tG12 | exact tG13 | exact tG18 | exact tG19 | exact tG20 | exact tG21 | exact tG22 | exact tG23 | exact tG25 | exact tG26 | exact tG27 | exact tG34 | exact tG36 | exact tG37 | exact tG38 | exact tG46 | exact tG49 | exact tG50 | exact tG51 | exact tG58 | exact tG59 | exact tG65 | exact tG66 | exact tG69 | exact tG70 | exact tG72 | exact tG74 | exact tG75 | exact tG79 | exact tG80 | exact tG87 | exact tG90 | exact tG95 | exact tG96 | exact tG100 | exact tG103 | exact tG111 | exact tG117 | exact tG121 | exact tG128 | exact tG134 | exact tG142 | exact tG145 | exact tG148) (by first | exact kd9) rfl rfl rfl (by assumption) rfl ?_; simp only [go_sem, reduceCtorEq, List.length_map, e2]) | (refine AX.mapUpdate rfl rfl (by first | exact tM65 | exact tM66) (by first | exact kd9) rfl rfl rfl (by assumption) rfl (by simp only [go_sem, reduceCtorEq, List.length_map, e2]) ?_; simp only [go_sem, reduceCtorEq, List.length_map, e2]) | (refine AX.makeMap rfl (by first | exact tM65 | exact tM66) rfl ?_; simp only [go_sem, reduceCtorEq, List.length_map, e2]) | (refine AX.lenMap rfl (by first | exact tM65 | exact tM66) rfl rfl rfl ?_; simp only [go_sem, reduceCtorEq, List.length_map, e2]) | (refine AX.range rfl (by first | exact tM65 | exact tM66) rfl rfl rfl ?_; simp only [go_sem, reduceCtorEq, List.length_map, e2]) | (refine AX.appendStr rfl (by first | exact tL22 | exact tL23 | exact tL25 | exact tL34 | exact tL36 | exact tL50 | exact tL100) (by simp only [go_sem]) (by simp only [go_sem]) (by simp only [go_sem]) rfl rfl rfl rfl (by simp only [go_sem, reduceCtorEq, List.length_map, e2]; first | omega | (simp; omega)) ?_; simp only [go_sem, reduceCtorEq, List.length_map, e2]) | (refine AX.shr rfl rfl rfl rfl (by first | decide | omega) ?_; simp only [go_sem, reduceCtorEq, List.length_map, e2]) | (refine AX.shl rfl rfl rfl rfl (by first | decide | omega) ?_; simp only [go_sem, reduceCtorEq, List.length_map, e2]) | (refine AX.bits rfl rfl rfl (by assumption) rfl ?_; simp only [go_sem, reduceCtorEq, List.length_map, e2]) | (refine AX.nilSl rfl (by first | exact tL22 | exact tL23 | exact tL25 | exact tL34 | exact tL36 | exact tL50 | exact tL100) (by first | exact .inl rfl | exact .inr rfl) rfl rfl rfl ?_; simp only [go_sem, reduceCtorEq, List.length_map, e2]))
      | ((show indepK _ _ _ _ = true ∧ _); refine And.intro (by kernel_rfl) ?_)
      | ((show _ ∧ _); refine And.intro (by first | omega | assumption | (simp only [go_sem]; omega) | (simp; omega) | (simp; done)) ?_)
      | (refine hK _ ?_; clear hK K)
      | (clear hK K; refine hK _ ?_; clear hK K)
      | (clear hK K; clear hK K; refine hK _ ?_; clear hK K)
      | (clear hK K; clear hK K; clear hK K; refine hK _ ?_; clear hK K)
      | fail)
    have : xs = ys := by rw [List.take_of_length_le (by omega), List.take_of_length_le (by omega)] at hinv; exact hinv
    simp [this]
  obtain ⟨⟨p, m⟩, hx, hm, hd⟩ := drop_at hlt
  obtain ⟨⟨q, n⟩, hx', hm', hd'⟩ := drop_at (show i < ys.length by omega)
  have e2 : decide ((i : Int) < xs.length) = true := by simp; omega
  have hw := w64s i (by omega)
  have c21 := comparePaths_c p q
  have hne : (p, m) ≠ (q, n) → decide (xs = ys) = false := fun h => by
    simp only [decide_eq_false_iff_not]
    intro e
    rw [e, hx'] at hx
    exact h (Option.some.inj hx).symm
  by_cases h1 : m = n
  rotate_left
  · have e3 : (m != n) = true := by simp [h1]
    rw [hne (fun e => h1 (congrArg Prod.snd e))]
    repeat' (first
      | ((show W _ _ _ _); first | (refine W.seq fun K hK => ?_) | refine W.block ?_ | (refine W.reg rfl ?_; simp only [go_sem, reduceCtorEq, List.getElem?_map, hx, hx', dlA, List.length_map, e2, e3]) | (refine W.regD Try_mo rfl rfl ?_; simp only [go_sem, reduceCtorEq, List.getElem?_map, hx, hx', dlA, List.length_map, e2, e3]) | (refine W.skip ?_; simp only [go_sem]) | (refine W.exit ?_; simp only [go_sem]) | (refine W.ret (Post.ret ?_); simp only [go_sem, reduceCtorEq, List.getElem?_map, hx, hx', dlA, List.length_map, e2, e3]) | refine W.condT rfl ?_ | refine W.condF rfl ?_ | refine W.cond rfl (fun h => ?_) (fun h => ?_))
      | ((show AX _ _ _ _ _); first | (refine AX.pcall rfl rfl (by simp only [go_sem, unim_im]; rfl) (by solve_by_elim) rfl rfl ?_; simp only [go_sem, reduceCtorEq, List.getElem?_map, hx, hx', dlA, List.length_map, e2, e3]) | (refine AX.pcallF rfl rfl (by simp only [go_sem, unim_im]; rfl) (by simp only [go_sem, unim_im]; rfl) (by solve_by_elim) rfl rfl ?_; simp only [go_sem, reduceCtorEq, List.getElem?_map, hx, hx', dlA, List.length_map, e2, e3]) | (refine AX.lookup rfl (by first | exact tM65 | exact tM66) (by first | exact tG2 | exact tG3 | exact tG4 | exact tG5 | exact tG7 | exact tG9 | exact tG12 | exact tG13 | exact tG18 | exact tG19 | exact tG20 | exact tG21 | exact tG22 | exact tG23 | exact tG25 | exact tG26 | exact tG27 | exact tG34 | exact tG36 | exact tG37 | exact tG38 | exact tG46 | exact tG49 | exact tG50 | exact tG51 | exact tG58 | exact tG59 | exact tG65 | exact tG66 | exact tG69 | exact tG70 | exact tG72 | exact tG74 | exact tG75 | exact tG79 | exact tG80 | exact tG87 | exact tG90 | exact tG95 | exact tG96 | exact tG100 | exact tG103 | exact tG111 | exact tG117 | exact tG121 | exact tG128 | exact tG134 | exact tG142 | exact tG145 | exact tG148) (by first | exact kd9) rfl rfl rfl (by assumption) rfl ?_; simp only [go_sem, reduceCtorEq, List.getElem?_map, hx, hx', dlA, List.length_map, e2, e3]) | (refine AX.mapUpdate rfl rfl (by first | exact tM65 | exact tM66) (by first | exact kd9) rfl rfl rfl (by assumption) rfl (by simp only [go_sem, reduceCtorEq, List.getElem?_map, hx, hx', dlA, List.length_map, e2, e3]) ?_; simp only [go_sem, reduceCtorEq, List.getElem?_map, hx, hx', dlA, List.length_map, e2, e3]) | (refine AX.makeMap rfl (by first | exact tM65 | exact tM66) rfl ?_; simp only [go_sem, reduceCtorEq, List.getElem?_map, hx, hx', dlA, List.length_map, e2, e3]) | (refine AX.lenMap rfl (by first | exact tM65 | exact tM66) rfl rfl rfl ?_; simp only [go_sem, reduceCtorEq, List.getElem?_map, hx, hx', dlA, List.length_map, e2, e3]) | (refine AX.range rfl (by first | exact tM65 | exact tM66) rfl rfl rfl ?_; simp only [go_sem, reduceCtorEq, List.getElem?_map, hx, hx', dlA, List.length_map, e2, e3]) | (refine AX.appendStr rfl (by first | exact tL22 | exact tL23 | exact tL25 | exact tL34 | exact tL36 | exact tL50 | exact tL100) (by simp only [go_sem]) (by simp only [go_sem]) (by simp only [go_sem]) rfl rfl rfl rfl (by simp only [go_sem, reduceCtorEq, List.getElem?_map, hx, hx', dlA, List.length_map, e2, e3]; first | omega | (simp; omega)) ?_; simp only [go_sem, reduceCtorEq, List.getElem?_map, hx, hx', dlA, List.length_map, e2, e3]) | (refine AX.shr rfl rfl rfl rfl (by first | decide | omega) ?_; simp only [go_sem, reduceCtorEq, List.getElem?_map, hx, hx', dlA, List.length_map, e2, e3]) | (refine AX.shl rfl rfl rfl rfl (by first | decide | omega) ?_; simp only [go_sem, reduceCtorEq, List.getElem?_map, hx, hx', dlA, List.length_map, e2, e3]) | (refine AX.bits rfl rfl rfl (by assumption) rfl ?_; simp only [go_sem, reduceCtorEq, List.getElem?_map, hx, hx', dlA, List.length_map, e2, e3]) | (refine AX.nilSl rfl (by first | exact tL22 | exact tL23 | exact tL25 | exact tL34 | exact tL36 | exact tL50 | exact tL100) (by first | exact .inl rfl | exact .inr rfl) rfl rfl rfl ?_; simp only [go_sem, reduceCtorEq, List.getElem?_map, hx, hx', dlA, List.length_map, e2, e3]))
      | ((show indepK _ _ _ _ = true ∧ _); refine And.intro (by kernel_rfl) ?_)
      | ((show _ ∧ _); refine And.intro (by first | omega | assumption | (simp only [go_sem]; omega) | (simp; omega) | (simp; done)) ?_)
      | (refine hK _ ?_; clear hK K)
      | (clear hK K; refine hK _ ?_; clear hK K)
      | (clear hK K; clear hK K; refine hK _ ?_; clear hK K)
      | (clear hK K; clear hK K; clear hK K; refine hK _ ?_; clear hK K)
      | fail)
  have e3 : (m != n) = false := by simp [h1]
  by_cases h2 : cmpPath p q = 0
  rotate_left
  · have e4 : (cmpPath p q != 0) = true := by simp [h2]
    rw [hne (fun e => h2 (by have e := congrArg Prod.fst e; simp only at e; rw [e]; exact lwPath.refl _))]
    repeat' (first
      | ((show W _ _ _ _); first | (refine W.seq fun K hK => ?_) | refine W.block ?_ | (refine W.reg rfl ?_; simp only [go_sem, reduceCtorEq, List.getElem?_map, hx, hx', dlA, List.length_map, e2, e3, e4]) | (refine W.regD Try_mo rfl rfl ?_; simp only [go_sem, reduceCtorEq, List.getElem?_map, hx, hx', dlA, List.length_map, e2, e3, e4]) | (refine W.skip ?_; simp only [go_sem]) | (refine W.exit ?_; simp only [go_sem]) | (refine W.ret (Post.ret ?_); simp only [go_sem, reduceCtorEq, List.getElem?_map, hx, hx', dlA, List.length_map, e2, e3, e4]) | refine W.condT rfl ?_ | refine W.condF rfl ?_ | refine W.cond rfl (fun h => ?_) (fun h => ?_))
      | ((show AX _ _ _ _ _); first | (refine AX.pcall rfl rfl (by simp only [go_sem, unim_im]; rfl) (by solve_by_elim) rfl rfl ?_; simp only [go_sem, reduceCtorEq, List.getElem?_map, hx, hx', dlA, List.length_map, e2, e3, e4]) | (refine AX.pcallF rfl rfl (by simp only [go_sem, unim_im]; rfl) (by simp only [go_sem, unim_im]; rfl) (by solve_by_elim) rfl rfl ?_; simp only [go_sem, reduceCtorEq, List.getElem?_map, hx, hx', dlA, List.length_map, e2, e3, e4]) | (refine AX.lookup rfl (by first | exact tM65 | exact tM66) (by first | exact tG2 | exact tG3 | exact tG4 | exact tG5 | exact tG7 | exact tG9 | exact tG12 | exact tG13 | exact tG18 | exact tG19 | exact tG20 | exact tG21 | exact tG22 | exact tG23 | exact tG25 | exact tG26 | exact tG27 | exact tG34 | exact tG36 | exact tG37 | exact tG38 | exact tG46 | exact tG49 | exact tG50 | exact tG51 | exact tG58 | exact tG59 | exact tG65 | exact tG66 | exact tG69 | exact tG70 | exact tG72 | exact tG74 | exact tG75 | exact tG79 | exact tG80 | exact tG87 | exact tG90 | exact tG95 | exact tG96 | exact tG100 | exact tG103 | exact tG111 | exact tG117 | exact tG121 | exact tG128 | exact tG134 | exact tG142 | exact tG145 | exact tG148) (by first | exact kd9) rfl rfl rfl (by assumption) rfl ?_; simp only [go_sem, reduceCtorEq, List.getElem?_map, hx, hx', dlA, List.length_map, e2, e3, e4]) | (refine AX.mapUpdate rfl rfl (by first | exact tM65 | exact tM66) (by first | exact kd9) rfl rfl rfl (by assumption) rfl (by simp only [go_sem, reduceCtorEq, List.getElem?_map, hx, hx', dlA, List.length_map, e2, e3, e4]) ?_; simp only [go_sem, reduceCtorEq, List.getElem?_map, hx, hx', dlA, List.length_map, e2, e3, e4]) | (refine AX.makeMap rfl (by first | exact tM65 | exact tM66) rfl ?_; simp only [go_sem, reduceCtorEq, List.getElem?_map, hx, hx', dlA, List.length_map, e2, e3, e4]) | (refine AX.lenMap rfl (by first | exact tM65 | exact tM66) rfl rfl rfl ?_; simp only [go_sem, reduceCtorEq, List.getElem?_map, hx, hx', dlA, List.length_map, e2, e3, e4]) | (refine AX.range rfl (by first | exact tM65 | exact tM66) rfl rfl rfl ?_; simp only [go_sem, reduceCtorEq, List.getElem?_map, hx, hx', dlA, List.length_map, e2, e3, e4]) | (refine AX.appendStr rfl (by first | exact tL22 | exact tL23 | exact tL25 | exact tL34 | exact tL36 | exact tL50 | exact tL100) (by simp only [go_sem]) (by simp only [go_sem]) (by simp only [go_sem]) rfl rfl rfl rfl (by simp only [go_sem, reduceCtorEq, List.getElem?_map, hx, hx', dlA, List.length_map, e2, e3, e4]; first | omega | (simp; omega)) ?_; simp only [go_sem, reduceCtorEq, List.getElem?_map, hx, hx', dlA, List.length_map, e2, e3, e4]) | (refine AX.shr rfl rfl rfl rfl (by first | decide | omega) ?_; simp only [go_sem, reduceCtorEq, List.getElem?_map, hx, hx', dlA, List.length_map, e2, e3, e4]) | (refine AX.shl rfl rfl rfl rfl (by first | decide | omega) ?_; simp only [go_sem, reduceCtorEq, List.getElem?_map, hx, hx', dlA, List.length_map, e2, e3, e4]) | (refine AX.bits rfl rfl rfl (by assumption) rfl ?_; simp only [go_sem, reduceCtorEq, List.getElem?_map, hx, hx', dlA, List.length_map, e2, e3, e4]) | (refine AX.nilSl rfl (by first | exact tL22 | exact tL23 | exact tL25 | exact tL34 | exact tL36 | exact tL50 | exact tL100) (by first | exact .inl rfl | exact .inr rfl) rfl rfl rfl ?_; simp only [go_sem, reduceCtorEq, List.getElem?_map, hx, hx', dlA, List.length_map, e2, e3, e4]))
      | ((show indepK _ _ _ _ = true ∧ _); refine And.intro (by kernel_rfl) ?_)
      | ((show _ ∧ _); refine And.intro (by first | omega | assumption | (simp only [go_sem]; omega) | (simp; omega) | (simp; done)) ?_)
      | (refine hK _ ?_; clear hK K)
      | (clear hK K; refine hK _ ?_; clear hK K)
      | (clear hK K; clear hK K; refine hK _ ?_; clear hK K)
      | (clear hK K; clear hK K; clear hK K; refine hK _ ?_; clear hK K)
      | fail)
  have e4 : (cmpPath p q != 0) = false := by simp [h2]
  repeat' (first
    | ((show W _ _ _ _); first | (refine W.seq fun K hK => ?_) | refine W.block ?_ | (refine W.reg rfl ?_; simp only [go_sem, reduceCtorEq, List.getElem?_map, hx, hx', dlA, List.length_map, e2, e3, e4, hw]) | (refine W.regD Try_mo rfl rfl ?_; simp only [go_sem, reduceCtorEq, List.getElem?_map, hx, hx', dlA, List.length_map, e2, e3, e4, hw]) | (refine W.skip ?_; simp only [go_sem]) | (refine W.exit ?_; simp only [go_sem]) | (refine W.ret (Post.ret ?_); simp only [go_sem, reduceCtorEq, List.getElem?_map, hx, hx', dlA, List.length_map, e2, e3, e4, hw]) | refine W.condT rfl ?_ | refine W.condF rfl ?_ | refine W.cond rfl (fun h => ?_) (fun h => ?_))
    | ((show AX _ _ _ _ _); first | (refine AX.pcall rfl rfl (by simp only [go_sem, unim_im]; rfl) (by solve_by_elim) rfl rfl ?_; simp only [go_sem, reduceCtorEq, List.getElem?_map, hx, hx', dlA, List.length_map, e2, e3, e4, hw]) | (refine AX.pcallF rfl rfl (by simp only [go_sem, unim_im]; rfl) (by simp only [go_sem, unim_im]; rfl) (by solve_by_elim) rfl rfl ?_; simp only [go_sem, reduceCtorEq, List.getElem?_map, hx, hx', dlA, List.length_map, e2, e3, e4, hw]) | (refine AX.lookup rfl (by first | exact tM65 | exact tM66) (by first | exact tG2 | exact tG3 | exact tG4 | exact tG5 | exact tG7 | exact tG9 | exact tG12 | exact tG13 | exact tG18 | exact tG19 | exact tG20 | exact tG21 | exact tG22 | exact tG23 | exact tG25 | exact tG26 | exact tG27 | exact tG34 | exact tG36 | exact tG37 | exact tG38 | exact tG46 | exact tG49 | exact tG50 | exact tG51 | exact tG58 | exact tG59 | exact tG65 | exact tG66 | exact tG69 | exact tG70 | exact tG72 | exact tG74 | exact tG75 | exact tG79 | exact tG80 | exact tG87 | exact tG90 | exact tG95 | exact tG96 | exact tG100 | exact tG103 | exact tG111 | exact tG117 | exact tG121 | exact tG128 | exact tG134 | exact tG142 | exact tG145 | exact tG148) (by first | exact kd9) rfl rfl rfl (by assumption) rfl ?_; simp only [go_sem, reduceCtorEq, List.getElem?_map, hx, hx', dlA, List.length_map, e2, e3, e4, hw]) | (refine AX.mapUpdate rfl rfl (by first | exact tM65 | exact tM66) (by first | exact kd9) rfl rfl rfl (by assumption) rfl (by simp only [go_sem, reduceCtorEq, List.getElem?_map, hx, hx', dlA, List.length_map, e2, e3, e4, hw]) ?_; simp only [go_sem, reduceCtorEq, List.getElem?_map, hx, hx', dlA, List.length_map, e2, e3, e4, hw]) | (refine AX.makeMap rfl (by first | exact tM65 | exact tM66) rfl ?_; simp only [go_sem, reduceCtorEq, List.getElem?_map, hx, hx', dlA, List.length_map, e2, e3, e4, hw]) | (refine AX.lenMap rfl (by first | exact tM65 | exact tM66) rfl rfl rfl ?_; simp only [go_sem, reduceCtorEq, List.getElem?_map, hx, hx', dlA, List.length_map, e2, e3, e4, hw]) | (refine AX.range rfl (by first | exact tM65 | exact tM66) rfl rfl rfl ?_; simp only [go_sem, reduceCtorEq, List.getElem?_map, hx, hx', dlA, List.length_map, e2, e3, e4, hw]) | (refine AX.appendStr rfl (by first | exact tL22 | exact tL23 | exact tL25 | exact tL34 | exact tL36 | exact tL50 | exact tL100) (by simp only [go_sem]) (by simp only [go_sem]) (by simp only [go_sem]) rfl rfl rfl rfl (by simp only [go_sem, reduceCtorEq, List.getElem?_map, hx, hx', dlA, List.length_map, e2, e3, e4, hw]; first | omega | (simp; omega)) ?_; simp only [go_sem, reduceCtorEq, List.getElem?_map, hx, hx', dlA, List.length_map, e2, e3, e4, hw]) | (refine AX.shr rfl rfl rfl rfl (by first | decide | omega) ?_; simp only [go_sem, reduceCtorEq, List.getElem?_map, hx, hx', dlA, List.length_map, e2, e3, e4, hw]) | (refine AX.shl rfl rfl rfl rfl (by first | decide | omega) ?_; simp only [go_sem, reduceCtorEq, List.getElem?_map, hx, hx', dlA, List.length_map, e2, e3, e4, hw]) | (refine AX.bits rfl rfl rfl (by assumption) rfl ?_; simp only [go_sem, reduceCtorEq, List.getElem?_map, hx, hx', dlA, List.length_map, e2, e3, e4, hw]) | (refine AX.nilSl rfl (by first | exact tL22 | exact tL23 | exact tL25 | exact tL34 | exact tL36 | exact tL50 | exact tL100) (by first | exact .inl rfl | exact .inr rfl) rfl rfl rfl ?_; simp only [go_sem, reduceCtorEq, List.getElem?_map, hx, hx', dlA, List.length_map, e2, e3, e4, hw]))
    | ((show indepK _ _ _ _ = true ∧ _); refine And.intro (by kernel_rfl) ?_)
    | ((show _ ∧ _); refine And.intro (by first | omega | assumption | (simp only [go_sem]; omega) | (simp; omega) | (simp; done)) ?_)
    | (refine hK _ ?_; clear hK K)
    | (clear hK K; refine hK _ ?_; clear hK K)
    | (clear hK K; clear hK K; refine hK _ ?_; clear hK K)
    | (clear hK K; clear hK K; clear hK K; refine hK _ ?_; clear hK K)
    | fail)
  refine hKL.to (i + 1) ⟨by omega, ?_⟩ (by omega) (Fits.fit [] [0, 1, 4, 5] 0 rfl rfl ?_)
  · rw [take_at hx, take_at hx', hinv, lwPath.eq _ _ h2, h1]
  · simp only [go_sem]
    exact Fits.rfl
end Go.Proofs.Ytegcmciglakicaa
namespace Go.Proofs.Ytegcmciglakicaa
open Go.RowKit Go.Exe
set_option linter.unusedVariables false
set_option linter.unusedSimpArgs false
set_option maxHeartbeats 1000000
set_option maxRecDepth 100000
attribute [local irreducible] W AX Run RunD AStep AOp AOpX AStB AStH AStG Fits PCall GCall PostG Post Stop

/-! ### the canonical form has the same nodes -/
theorem cnts_perm (q path : List Nm) {l m : List Shp} (h : l.Perm m) : cnts q l path = cnts q m path := by
  induction h with
  | nil => rfl
  | cons x _ ih => simp [cnts, ih]
  | swap x y l => simp only [cnts]; omega
  | trans _ _ h1 h2 => rw [h1, h2]
theorem tws_perm {l m : List Shp} (h : l.Perm m) : tws l = tws m := by
  induction h with
  | nil => rfl
  | cons x _ ih => simp [tws, ih]
  | swap x y l => simp only [tws]; omega
  | trans _ _ h1 h2 => rw [h1, h2]
theorem sizes_perm {l m : List Shp} (h : l.Perm m) : sizes l = sizes m := by
  induction h with
  | nil => rfl
  | cons x _ ih => simp [sizes, ih]
  | swap x y l => simp only [sizes]; omega
  | trans _ _ h1 h2 => rw [h1, h2]
theorem keysW_perm {l m : List Shp} (h : l.Perm m) : keysW l = keysW m := by
  induction h with
  | nil => rfl
  | cons x _ ih => simp [keysW, ih]
  | swap x y l => simp only [keysW]; omega
  | trans _ _ h1 h2 => rw [h1, h2]
theorem okSs_perm {l m : List Shp} (h : l.Perm m) : okSs l ↔ okSs m := by
  induction h with
  | nil => exact Iff.rfl
  | cons x _ ih => simp [okSs, ih]
  | swap x y l => simp only [okSs]; exact ⟨fun ⟨a, b, c⟩ => ⟨b, a, c⟩, fun ⟨a, b, c⟩ => ⟨b, a, c⟩⟩
  | trans _ _ h1 h2 => exact h1.trans h2
mutual
theorem canon_cnt (q : List Nm) : ∀ (x : Shp) (above : List Nm), x.canon.cnt q above = x.cnt q above
  | .mk s o ks, above => by simp only [Shp.canon, Shp.cnt]; rw [cnts_perm q _ (srt_perm _), canons_cnt q ks]
theorem canons_cnt (q : List Nm) : ∀ (l : List Shp) (path : List Nm), cnts q (canons l) path = cnts q l path
  | [], _ => rfl
  | x :: r, path => by simp only [canons, cnts]; rw [canon_cnt q x, canons_cnt q r]
end
mutual
theorem canon_tw : ∀ x : Shp, x.canon.tw = x.tw
  | .mk s o ks => by simp only [Shp.canon, Shp.tw]; rw [tws_perm (srt_perm _), canons_tw ks]
theorem canons_tw : ∀ l : List Shp, tws (canons l) = tws l
  | [] => rfl
  | x :: r => by simp only [canons, tws]; rw [canon_tw x, canons_tw r]
end
mutual
theorem canon_size : ∀ x : Shp, x.canon.size = x.size
  | .mk s o ks => by simp only [Shp.canon, Shp.size]; rw [sizes_perm (srt_perm _), canons_size ks]
theorem canons_size : ∀ l : List Shp, sizes (canons l) = sizes l
  | [] => rfl
  | x :: r => by simp only [canons, sizes]; rw [canon_size x, canons_size r]
end
mutual
theorem canon_keyW : ∀ x : Shp, x.canon.keyW = x.keyW
  | .mk s o ks => by simp only [Shp.canon, Shp.keyW]; rw [keysW_perm (srt_perm _), canons_keyW ks]
theorem canons_keyW : ∀ l : List Shp, keysW (canons l) = keysW l
  | [] => rfl
  | x :: r => by simp only [canons, keysW]; rw [canon_keyW x, canons_keyW r]
end
mutual
theorem canon_okS : ∀ x : Shp, x.canon.okS ↔ x.okS
  | .mk s o ks => by simp only [Shp.canon, Shp.okS]; rw [okSs_perm (srt_perm _), canons_okS ks]
theorem canons_okS : ∀ l : List Shp, okSs (canons l) ↔ okSs l
  | [] => Iff.rfl
  | x :: r => by simp only [canons, okSs]; rw [canon_okS x, canons_okS r]
end
theorem diff_canon (x : Shp) (h : x.size < 2305843009213693952) : x.diff x.canon = [] := by
  have h1 := diff_spec x x.canon (by rw [canon_size]; omega)
  exact nrm_ext h1.1 nrm_nil fun q => by rw [h1.2.2, canon_cnt]; simp [dval]
/-! ### how large a made shape is -/
theorem svc_size (b : Nat) : (svc b).size ≤ 3 := by unfold svc; split; · decide
                                                    · split <;> decide
theorem opn_size (b : Nat) : (opn b).size ≤ 3 := by unfold opn; split <;> decide
mutual
theorem growF_tw : ∀ (f : Nat) (p : List Nat), (growF f p).1.tw ≤ 40 * (growF f p).1.size ∧ (growF f p).1.okS ∧ (growF f p).1.keyW ≤ 40 * (growF f p).1.size
  | 0, p => by simp [growF, Shp.tw, Shp.size, tws, sizes, Shp.okS, okSs, Shp.keyW, keysW]
  | f + 1, [] => by simp [growF, Shp.tw, Shp.size, tws, sizes, Shp.okS, okSs, Shp.keyW, keysW]
  | f + 1, b :: r => by
    have h1 := kidsF_tw f (b / 3 % 4) r
    have h2 := svc_size b
    have h3 := opn_size b
    simp only [growF, Shp.tw, Shp.size, Shp.okS, Shp.keyW]
    exact ⟨by omega, ⟨⟨by omega, by omega⟩, h1.2.1⟩, by omega⟩
termination_by f _ => (f, 0)
theorem kidsF_tw : ∀ (f n : Nat) (p : List Nat), tws (kidsF f n p).1 ≤ 40 * sizes (kidsF f n p).1 ∧ okSs (kidsF f n p).1 ∧ keysW (kidsF f n p).1 ≤ 40 * sizes (kidsF f n p).1
  | _, 0, l => by simp [kidsF, tws, sizes, okSs, keysW]
  | _, _ + 1, [] => by simp [kidsF, tws, sizes, okSs, keysW]
  | f, n + 1, b :: r => by
    have h1 := growF_tw f (b :: r)
    have h2 := kidsF_tw f n (growF f (b :: r)).2
    simp only [kidsF, tws, sizes, okSs, keysW]
    exact ⟨by omega, ⟨h1.2.1, h2.2.1⟩, by omega⟩
termination_by f n _ => (f, n + 1)
end
theorem madeP_tw (p : List Nat) : (madeP p).tw ≤ 3880 := by
  have h := (growF_tw 24 (p.take 24)).1
  have h2 := madeP_size p
  unfold madeP at *
  omega
theorem madeP_keyW (p : List Nat) : (madeP p).keyW ≤ 3880 := by
  have h := (growF_tw 24 (p.take 24)).2.2
  have h2 := madeP_size p
  unfold madeP at *
  omega
theorem madeP_okS (p : List Nat) : (madeP p).okS := (growF_tw 24 (p.take 24)).2.1
/-! ### ShapePaths -/
theorem shapePaths_c (p q : List Nat) (x y xc : Shp) (A B D : List Dl) (c8 : PCall Try.prog 8 [] (ft (.bool true)))
    (cp : PCall Try.prog 9 [planT p] (shT x)) (cq : PCall Try.prog 9 [planT q] (shT y))
    (c24 : PCall Try.prog 24 [shT x] (lsT A)) (c25a : PCall Try.prog 25 [ft (.slice none 0 0), shT x, ft (.slice none 0 0), ft (.int .i64 1)] (lsT A))
    (c23 : ∀ l : List Dl, PCall Try.prog 23 [lsT l, lsT l] (ft (.bool true)))
    (c20 : PCall Try.prog 20 [shT x, shT y] (lsT D))
    (c25b : PCall Try.prog 25 [ft (.slice none 0 0), shT y, ft (.slice none 0 0), ft (.int .i64 1)] (lsT B))
    (c25c : PCall Try.prog 25 [lsT B, shT x, ft (.slice none 0 0), ft (.int .i64 (-1))] (lsT D))
    (c13 : PCall Try.prog 13 [shT x] (shT xc)) (c20b : PCall Try.prog 20 [shT x, shT xc] (lsT [])) :
    PCall Try.prog 5 [planT p, planT q] (ft (.bool true)) := by
  have c23a := c23 A
  have c23d := c23 D
  obtain ⟨s, o, ks⟩ := x
  obtain ⟨s1, o1, ks1⟩ := y
  obtain ⟨s2, o2, ks2⟩ := xc
  simp only [shT_mk, planT, lsT] at *
  refine PCall.intro (nt := 36) (rs := [.tmp 4]) Try.func5 rfl ⟨by kernel_rfl, by kernel_rfl, by kernel_rfl⟩ (by simp) ?_
  rintro ⟨P, w0, ok0, may, np, pblk⟩ rfl rfl
  repeat' (first
    | ((show W _ _ _ _); first | (refine W.seq fun K hK => ?_) | refine W.block ?_ | (refine W.reg rfl ?_; simp only [go_sem, reduceCtorEq]) | (refine W.regD Try_mo rfl rfl ?_; simp only [go_sem, reduceCtorEq]) | (refine W.skip ?_; simp only [go_sem]) | (refine W.exit ?_; simp only [go_sem]) | (refine W.ret (Post.ret ?_); simp only [go_sem, reduceCtorEq]) | refine W.condT rfl ?_ | refine W.condF rfl ?_ | refine W.cond rfl (fun h => ?_) (fun h => ?_))
    | ((show AX _ _ _ _ _); first | (refine AX.pcall rfl rfl (by simp only [go_sem, unim_im]; rfl) (by solve_by_elim) rfl rfl ?_; simp only [go_sem, reduceCtorEq]) | (refine AX.pcallF rfl rfl (by simp only [go_sem, unim_im]; rfl) (by simp only [go_sem, unim_im]; rfl) (by solve_by_elim) rfl rfl ?_; simp only [go_sem, reduceCtorEq]) | (refine AX.lookup rfl (by first | exact tM65 | exact tM66) (by first | exact tG2 | exact tG3 | exact tG4 | exact tG5 | exact tG7 | exact tG9 | exact tG12 | exact tG13 | exact tG18 | exact tG19 | exact tG20 | exact tG21 | exact tG22 | exact tG23 | exact tG25 | exact tG26 | exact tG27 | exact tG34 | exact tG36 | exact tG37 | exact tG38 | exact tG46 | exact tG49 | exact tG50 | exact tG51 | exact tG58 | exact tG59 | exact tG65 | exact tG66 | exact tG69 | exact tG70 | exact tG72 | exact tG74 | exact tG75 | exact tG79 | exact tG80 | exact tG87 | exact tG90 | exact tG95 | exact tG96 | exact tG100 | exact tG103 | exact tG111 | exact tG117 | exact tG121 | exact tG128 | exact tG134 | exact tG142 | exact tG145 | exact tG148) (by first | exact kd9) rfl rfl rfl (by assumption) rfl ?_; simp only [go_sem, reduceCtorEq]) | (refine AX.mapUpdate rfl rfl (by first | exact tM65 | exact tM66) (by first | exact kd9) rfl rfl rfl (by assumption) rfl (by simp only [go_sem, reduceCtorEq]) ?_; simp only [go_sem, reduceCtorEq]) | (refine AX.makeMap rfl (by first | exact tM65 | exact tM66) rfl ?_; simp only [go_sem, reduceCtorEq]) | (refine AX.lenMap rfl (by first | exact tM65 | exact tM66) rfl rfl rfl ?_; simp only [go_sem, reduceCtorEq]) | (refine AX.range rfl (by first | exact tM65 | exact tM66) rfl rfl rfl ?_; simp only [go_sem, reduceCtorEq]) | (refine AX.appendStr rfl (by first | exact tL22 | exact tL23 | exact tL25 | exact tL34 | exact tL36 | exact tL50 | exact tL100) (by simp only [go_sem]) (by simp only [go_sem]) (by simp only [go_sem]) rfl rfl rfl rfl (by simp only [go_sem, reduceCtorEq]; first | omega | (simp; omega)) ?_; simp only [go_sem, reduceCtorEq]) | (refine AX.shr rfl rfl rfl rfl (by first | decide | omega) ?_; simp only [go_sem, reduceCtorEq]) | (refine AX.shl rfl rfl rfl rfl (by first | decide | omega) ?_; simp only [go_sem, reduceCtorEq]) | (refine AX.bits rfl rfl rfl (by assumption) rfl ?_; simp only [go_sem, reduceCtorEq]) | (refine AX.nilSl rfl (by first | exact tL22 | exact tL23 | exact tL25 | exact tL34 | exact tL36 | exact tL50 | exact tL100) (by first | exact .inl rfl | exact .inr rfl) rfl rfl rfl ?_; simp only [go_sem, reduceCtorEq]))
    | ((show indepK _ _ _ _ = true ∧ _); refine And.intro (by kernel_rfl) ?_)
    | ((show _ ∧ _); refine And.intro (by first | omega | assumption | (simp only [go_sem]; omega) | (simp; omega) | (simp; done)) ?_)
    | (refine hK _ ?_; clear hK K)
    | (clear hK K; refine hK _ ?_; clear hK K)
    | (clear hK K; clear hK K; refine hK _ ?_; clear hK K)
    | (clear hK K; clear hK K; clear hK K; refine hK _ ?_; clear hK K)
    | fail)
  rfl
theorem shapePaths_true (c35 : SortC Try.prog 35 3) (c55 : SortC Try.prog 55 2) (p q : List Nat) (hp : ∀ x ∈ p, x < 256) (hq : ∀ x ∈ q, x < 256) : PCall Try.prog 5 [planT p, planT q] (ft (.bool true)) := by
  have hsp := madeP_size p
  have hsq := madeP_size q
  have htp := madeP_tw p
  have htq := madeP_tw q
  have hop := madeP_okS p
  have hoq := madeP_okS q
  refine shapePaths_c p q (madeP p) (madeP q) (madeP p).canon _ ((madeP q).pathsD 1 [] []) ((madeP p).diff (madeP q)) (known_all c35 c55) (made_c p hp) (made_c q hq) (paths_is c55 _ hop (by omega) (by omega)) (paths_0 _ _ (by omega)) (fun l => by simpa using deltas_c l l) (diff_is c55 _ _ hop hoq (by omega) (by omega)) (paths_0 _ _ (by omega)) (paths_1 _ _ _ ?_) ?_ ?_
  · have := pathsD_len 1 (madeP q) [] []
    simp only [List.length_nil] at this
    omega
  · have := all13 (madeP p)
    rwa [mcanon_eq] at this
  · have := diff_is c55 (madeP p) (madeP p).canon hop ((canon_okS _).2 hop) (by rw [canon_tw]; omega) (by rw [canon_size]; omega)
    rwa [diff_canon _ (by omega)] at this
end Go.Proofs.Ytegcmciglakicaa
namespace Go.Proofs.Ytegcmciglakicaa
open Go.RowKit Go.Exe
set_option linter.unusedVariables false
set_option linter.unusedSimpArgs false
set_option maxHeartbeats 1000000
set_option maxRecDepth 100000
attribute [local irreducible] W AX Run RunD AStep AOp AOpX AStB AStH AStG Fits PCall GCall PostG Post Stop

def tot : List Dl → Int
  | [] => 0
  | d :: r => d.2 + tot r
theorem tot_app : ∀ a b : List Dl, tot (a ++ b) = tot a + tot b
  | [], b => by simp [tot]
  | d :: r, b => by simp only [List.cons_append, tot, tot_app r b]; omega
theorem withD_tot {p : List Nm} {b n k : Int} (hk : -k ≤ b ∧ b ≤ k) (hn : 0 ≤ n) (hs : n + k < 9223372036854775808) : ∀ {l : List Dl}, Bnd n l → tot (withD p b l) = tot l + b
  | [], _ => by
    simp only [withD]
    split
    · simp [tot]
    · rename_i h; simp only [tot]; omega
  | x :: r, h => by
    have hx := h x (by simp)
    have ih := withD_tot (p := p) hk hn hs (l := r) fun d hd => h d (by simp [hd])
    have hw : IntKind.i64.wrap (b + x.2) = b + x.2 := w64 (by omega) (by omega)
    simp only [withD]
    split
    · simp only [tot, ih]; omega
    · split
      · rw [hw]; split <;> simp only [tot] <;> omega
      · split <;> simp only [tot] <;> omega
mutual
theorem pathsD_tot {b : Int} (hb : b = 1 ∨ b = -1) : ∀ (x : Shp) (above : List Nm) (l : List Dl) (n : Int), Nrm l → 0 ≤ n → Bnd n l → n + x.size < 9223372036854775808 →
    tot (x.pathsD b above l) = tot l + b * x.size
  | .mk s o ks, above, l, n, hl, hn, hB, hs => by
    simp only [Shp.size] at hs
    have hk : -1 ≤ b ∧ b ≤ 1 := by omega
    have h1 := withD_spec (p := above ++ [(s, o)]) hk hn (by omega) hl hB
    have h2 := withD_bnd (p := above ++ [(s, o)]) hk hn (by omega) hB
    have h4 := withD_tot (p := above ++ [(s, o)]) hk hn (by omega) hB
    have h3 := pathssD_tot hb ks (above ++ [(s, o)]) (withD (above ++ [(s, o)]) b l) (n + 1) h1.1 (by omega) h2 (by omega)
    simp only [Shp.pathsD, Shp.size]
    rw [h3, h4]
    rcases hb with rfl | rfl <;> omega
theorem pathssD_tot {b : Int} (hb : b = 1 ∨ b = -1) : ∀ (ks : List Shp) (path : List Nm) (l : List Dl) (n : Int), Nrm l → 0 ≤ n → Bnd n l → n + sizes ks < 9223372036854775808 →
    tot (pathssD b ks path l) = tot l + b * sizes ks
  | [], path, l, n, hl, hn, hB, hs => by simp [pathssD, sizes]
  | x :: r, path, l, n, hl, hn, hB, hs => by
    simp only [sizes] at hs
    have h0 := pathsD_spec hb x path l n hl hn hB (by omega)
    have h1 := pathsD_tot hb x path l n hl hn hB (by omega)
    have h2 := pathssD_tot hb r path (x.pathsD b path l) (n + x.size) h0.1 (by omega) h0.2.1 (by omega)
    simp only [pathssD, sizes]
    rw [h2, h1]
    rcases hb with rfl | rfl <;> omega
end
theorem diff_tot (a b : Shp) (hs : a.size + b.size < 4611686018427387904) : tot (a.diff b) = b.size - a.size := by
  have h1 := pathsD_spec (b := 1) (.inl rfl) b [] [] 0 nrm_nil (Int.le_refl _) (bnd_nil _) (by omega)
  have h2 := pathsD_tot (b := 1) (.inl rfl) b [] [] 0 nrm_nil (Int.le_refl _) (bnd_nil _) (by omega)
  have h3 := pathsD_tot (b := -1) (.inr rfl) a [] (b.pathsD 1 [] []) (0 + b.size) h1.1 (by omega) h1.2.1 (by omega)
  simp only [Shp.diff]
  rw [h3, h2]
  simp only [tot]
  omega
theorem diff_len (a b : Shp) : (a.diff b).length ≤ b.size + a.size := by
  have h1 := pathsD_len 1 b [] []
  have h2 := pathsD_len (-1) a [] (b.pathsD 1 [] [])
  simp only [List.length_nil] at h1
  simp only [Shp.diff]
  omega
def negD (l : List Dl) : List Dl := l.map fun d => (d.1, -d.2)
theorem dval_neg (q : List Nm) : ∀ l, dval q (negD l) = - dval q l
  | [] => by simp [negD, dval]
  | d :: r => by
    have := dval_neg q r
    simp only [negD, List.map_cons, dval] at this ⊢
    rw [this]; split <;> omega
theorem nrm_neg {l : List Dl} (h : Nrm l) : Nrm (negD l) := by
  refine ⟨?_, fun d hd => ?_⟩
  · unfold negD
    rw [List.pairwise_map]
    exact h.lt
  · obtain ⟨e, he, rfl⟩ := List.mem_map.1 hd
    have := h.nz e he
    simp only; omega
theorem diff_back (a b : Shp) (hs : a.size + b.size < 4611686018427387904) : b.diff a = negD (a.diff b) := by
  have h1 := diff_spec a b hs
  have h2 := diff_spec b a (by omega)
  exact nrm_ext h2.1 (nrm_neg h1.1) fun q => by rw [h2.2.2, dval_neg, h1.2.2]; omega
def addAll (l x : List Dl) : List Dl := x.foldl (fun acc d => withD d.1 d.2 acc) l
theorem addAll_spec {m : Int} (hm : 0 ≤ m) : ∀ (x l : List Dl) (n : Int), Bnd m x → 0 ≤ n → n + m * x.length < 9223372036854775808 → Nrm l → Bnd n l → Nrm (addAll l x) ∧ ∀ q, dval q (addAll l x) = dval q l + dval q x
  | [], l, n, _, _, _, hl, _ => ⟨hl, fun q => by simp [addAll, dval]⟩
  | d :: r, l, n, hx, hn, hs, hl, hB => by
    have hd := hx d (by simp)
    have hr : m * ((d :: r).length : Int) = m + m * r.length := by simp only [List.length_cons, Int.natCast_add, Int.mul_add]; omega
    have h0 : 0 ≤ m * (r.length : Int) := Int.mul_nonneg hm (by omega)
    rw [hr] at hs
    have h1 := withD_spec (p := d.1) (b := d.2) (k := m) hd hn (by omega) hl hB
    have h2 := withD_bnd (p := d.1) (b := d.2) (k := m) hd hn (by omega) hB
    have h3 := addAll_spec hm r (withD d.1 d.2 l) (n + m) (fun e he => hx e (by simp [he])) (by omega) (by omega) h1.1 h2
    refine ⟨h3.1, fun q => ?_⟩
    have := h3.2 q
    rw [h1.2.1 q] at this
    simp only [addAll, List.foldl_cons, dval] at this ⊢
    rw [this]; omega
theorem addAll_len : ∀ (x l : List Dl), (addAll l x).length ≤ l.length + x.length
  | [], l => by simp [addAll]
  | d :: r, l => by
    have h1 := addAll_len r (withD d.1 d.2 l)
    have h2 := withD_len d.1 d.2 l
    simp only [addAll, List.foldl_cons, List.length_cons] at h1 ⊢
    omega
theorem addAll_at {l x : List Dl} {i : Nat} {d : Dl} (h : x[i]? = some d) : addAll l (x.take (i + 1)) = withD d.1 d.2 (addAll l (x.take i)) := by
  rw [take_at h]; simp [addAll, List.foldl_append]
theorem tot_bnd {n : Int} (hn : 0 ≤ n) : ∀ {l : List Dl}, Bnd n l → -(n * l.length) ≤ tot l ∧ tot l ≤ n * l.length
  | [], _ => by simp [tot]
  | d :: r, h => by
    have hd := h d (by simp)
    have ih := tot_bnd hn (l := r) fun e he => h e (by simp [he])
    have hr : n * ((d :: r).length : Int) = n + n * r.length := by simp only [List.length_cons, Int.natCast_add, Int.mul_add]; omega
    rw [hr]
    simp only [tot]
    omega
theorem adds_c (p q r : List Nat) (x y z : Shp) (S B X Y : List Dl) (c8 : PCall Try.prog 8 [] (ft (.bool true)))
    (cp : PCall Try.prog 9 [planT p] (shT x)) (cq : PCall Try.prog 9 [planT q] (shT y)) (cr : PCall Try.prog 9 [planT r] (shT z))
    (d1 : PCall Try.prog 20 [shT x, shT y] (lsT S)) (d2 : PCall Try.prog 20 [shT y, shT x] (lsT B)) (d3 : PCall Try.prog 20 [shT y, shT z] (lsT X)) (d4 : PCall Try.prog 20 [shT x, shT z] (lsT Y))
    (c16x : PCall Try.prog 16 [shT x] (ft (.int .i64 x.size))) (c16y : PCall Try.prog 16 [shT y] (ft (.int .i64 y.size)))
    (hlen : S.length = B.length) (hpt : ∀ (i : Nat) (p : List Nm) (m : Int) (q : List Nm) (n : Int), S[i]? = some (p, m) → B[i]? = some (q, n) → cmpPath p q = 0 ∧ m = IntKind.i64.wrap (0 - n) ∧ m ≠ 0)
    (hsum : ∀ (i : Nat) (d : Dl), S[i]? = some d → IntKind.i64.wrap (tot (S.take i) + d.2) = tot (S.take (i + 1))) (hlast : IntKind.i64.wrap (y.size - x.size) = tot S)
    (hbig : S.length + X.length + 1 ≤ 4398046511104) (hfold : addAll S X = Y) :
    PCall Try.prog 4 [planT p, planT q, planT r] (ft (.bool true)) := by
  have c23 := deltas_c Y Y
  rw [show decide (Y = Y) = true by simp] at c23
  generalize x.size = n1 at *
  generalize y.size = n2 at *
  obtain ⟨s, o, ks⟩ := x
  obtain ⟨s1, o1, ks1⟩ := y
  obtain ⟨s2, o2, ks2⟩ := z
  simp only [shT_mk, planT, lsT] at *
  refine PCall.intro (nt := 119) (rs := [.tmp 6]) Try.func4 rfl ⟨by kernel_rfl, by kernel_rfl, by kernel_rfl⟩ (by simp) ?_
  rintro ⟨P, w0, ok0, may, np, pblk⟩ rfl rfl
  have e1 : ((S.length : Int) != (B.length : Int)) = false := by simp; omega
  repeat' (first
    | ((show W _ _ _ _); first | (refine W.seq fun K hK => ?_) | refine W.block ?_ | (refine W.reg rfl ?_; simp only [go_sem, reduceCtorEq, List.length_map, e1]) | (refine W.regD Try_mo rfl rfl ?_; simp only [go_sem, reduceCtorEq, List.length_map, e1]) | (refine W.skip ?_; simp only [go_sem]) | (refine W.exit ?_; simp only [go_sem]) | (refine W.ret (Post.ret ?_); simp only [go_sem, reduceCtorEq, List.length_map, e1]) | refine W.condT rfl ?_ | refine W.condF rfl ?_ | refine W.cond rfl (fun h => ?_) (fun h => ?_))
    | ((show AX _ _ _ _ _); first | (refine AX.pcall rfl rfl (by simp only [go_sem, unim_im]; rfl) (by solve_by_elim) rfl rfl ?_; simp only [go_sem, reduceCtorEq, List.length_map, e1]) | (refine AX.pcallF rfl rfl (by simp only [go_sem, unim_im]; rfl) (by simp only [go_sem, unim_im]; rfl) (by solve_by_elim) rfl rfl ?_; simp only [go_sem, reduceCtorEq, List.length_map, e1]) | (refine AX.lookup rfl (by first | exact tM65 | exact tM66) (by first | exact tG2 | exact tG3 | exact tG4 | exact tG5 | exact tG7 | exact tG9 | exact tG12 | exact tG13 | exact tG18 | exact tG19 | exact tG20 | exact tG21 | exact tG22 | exact tG23 | exact tG25 | exact tG26 | exact tG27 | exact tG34 | exact tG36 | exact tG37 | exact tG38 | exact tG46 | exact tG49 | exact tG50 | exact tG51 | exact tG58 | exact tG59 | exact tG65 | exact tG66 | exact tG69 | exact tG70 | exact tG72 | exact tG74 | exact tG75 | exact tG79 | exact tG80 | exact tG87 | exact tG90 | exact tG95 | exact tG96 | exact tG100 | exact tG103 | exact tG111 | exact tG117 | exact tG121 | exact tG128 | exact tG134 | exact tG142 | exact tG145 | exact tG148) (by first | exact kd9) rfl rfl rfl (by assumption) rfl ?_; simp only [go_sem, reduceCtorEq, List.length_map, e1]) | (refine AX.mapUpdate rfl rfl (by first | exact tM65 | exact tM66) (by first | exact kd9) rfl rfl rfl (by assumption) rfl (by simp only [go_sem, reduceCtorEq, List.length_map, e1]) ?_; simp only [go_sem, reduceCtorEq, List.length_map, e1]) | (refine AX.makeMap rfl (by first | exact tM65 | exact tM66) rfl ?_; simp only [go_sem, reduceCtorEq, List.length_map, e1]) | (refine AX.lenMap rfl (by first | exact tM65 | exact tM66) rfl rfl rfl ?_; simp only [go_sem, reduceCtorEq, List.length_map, e1]) | (refine AX.range rfl (by first | exact tM65 | exact tM66) rfl rfl rfl ?_; simp only [go_sem, reduceCtorEq, List.length_map, e1]) | (refine AX.appendStr rfl (by first | exact tL22 | exact tL23 | exact tL25 | exact tL34 | exact tL36 | exact tL50 | exact tL100) (by simp only [go_sem]) (by simp only [go_sem]) (by simp only [go_sem]) rfl rfl rfl rfl (by simp only [go_sem, reduceCtorEq, List.length_map, e1]; first | omega | (simp; omega)) ?_; simp only [go_sem, reduceCtorEq, List.length_map, e1]) | (refine AX.shr rfl rfl rfl rfl (by first | decide | omega) ?_; simp only [go_sem, reduceCtorEq, List.length_map, e1]) | (refine AX.shl rfl rfl rfl rfl (by first | decide | omega) ?_; simp only [go_sem, reduceCtorEq, List.length_map, e1]) | (refine AX.bits rfl rfl rfl (by assumption) rfl ?_; simp only [go_sem, reduceCtorEq, List.length_map, e1]) | (refine AX.nilSl rfl (by first | exact tL22 | exact tL23 | exact tL25 | exact tL34 | exact tL36 | exact tL50 | exact tL100) (by first | exact .inl rfl | exact .inr rfl) rfl rfl rfl ?_; simp only [go_sem, reduceCtorEq, List.length_map, e1]))
    | ((show indepK _ _ _ _ = true ∧ _); refine And.intro (by kernel_rfl) ?_)
    | ((show _ ∧ _); refine And.intro (by first | omega | assumption | (simp only [go_sem]; omega) | (simp; omega) | (simp; done)) ?_)
    | (refine hK _ ?_; clear hK K)
    | (clear hK K; refine hK _ ?_; clear hK K)
    | (clear hK K; clear hK K; refine hK _ ?_; clear hK K)
    | (clear hK K; clear hK K; clear hK K; refine hK _ ?_; clear hK K)
    | fail)
  refine W.lenIm 10 rfl fun hl1 => ?_
  refine W.lenIm 12 rfl fun hl3 => ?_
  rw [List.length_map, maxLen_is] at hl1 hl3
  refine W.loopF (T := fun i : Nat => { t := [(6, ft (.bool false)), (7, .c (.ptr 0 0)), (8, .c (.ptr 1 0)), (10, .c (.im (.sl 38 ((S).map dlA)))), (11, .c (.im (.sl 38 (B.map dlA)))), (12, .c (.im (.sl 38 (X.map dlA)))), (13, .c (.im (.sl 38 (Y.map dlA)))), (14, ft (.int .i64 (tot (S.take i)))), (15, ft (.int .i64 (i : Nat)))], h := [(0, .box 27 [fl (.string s), fl (.string o), .im (.sl 27 (avs ks))]), (1, .box 27 [fl (.string s1), fl (.string o1), .im (.sl 27 (avs ks1))])], nx := 2, ex := [], nt := 119 })
    (Inv := fun i => i ≤ S.length) (μ := fun i => S.length - i) (x0 := 0) (Fits.fit [(9, 0), (10, 1)] [6, 7, 8, 10, 11, 12, 13, 14, 15] 2 rfl rfl ?_) (Nat.zero_le _) ?_
  · simp only [go_sem, List.take_zero, tot]
    exact Fits.rfl
  intro i hi KL hKL
  by_cases hlt : i < S.length
  · obtain ⟨⟨pp, m⟩, hx, hm, hd⟩ := drop_at hlt
    obtain ⟨⟨qq, n⟩, hx', hm', hd'⟩ := drop_at (show i < B.length by omega)
    have e2 : decide ((i : Int) < B.length) = true := by simp; omega
    have hw := w64s i (by omega)
    have c21 := comparePaths_c pp qq
    obtain ⟨h1, h2, h3⟩ := hpt i pp m qq n hx hx'
    have hs := hsum i _ hx
    have e3 : (cmpPath pp qq != 0) = false := by simp [h1]
    have e4 : (m != IntKind.i64.wrap (0 - n)) = false := by rw [← h2]; simp
    have e5 : (m == 0) = false := by simp [h3]
    simp only at hs
    repeat' (first
      | ((show W _ _ _ _); first | (refine W.seq fun K hK => ?_) | refine W.block ?_ | (refine W.reg rfl ?_; simp only [go_sem, reduceCtorEq, List.length_map, List.getElem?_map, hx, hx', dlA, e2, e3, e4, e5, hw, hs]) | (refine W.regD Try_mo rfl rfl ?_; simp only [go_sem, reduceCtorEq, List.length_map, List.getElem?_map, hx, hx', dlA, e2, e3, e4, e5, hw, hs]) | (refine W.skip ?_; simp only [go_sem]) | (refine W.exit ?_; simp only [go_sem]) | (refine W.ret (Post.ret ?_); simp only [go_sem, reduceCtorEq, List.length_map, List.getElem?_map, hx, hx', dlA, e2, e3, e4, e5, hw, hs]) | refine W.condT rfl ?_ | refine W.condF rfl ?_ | refine W.cond rfl (fun h => ?_) (fun h => ?_))
      | ((show AX _ _ _ _ _); first | (refine AX.pcall rfl rfl (by simp only [go_sem, unim_im]; rfl) (by solve_by_elim) rfl rfl ?_; simp only [go_sem, reduceCtorEq, List.length_map, List.getElem?_map, hx, hx', dlA, e2, e3, e4, e5, hw, hs]) | (refine AX.pcallF rfl rfl (by simp only [go_sem, unim_im]; rfl) (by simp only [go_sem, unim_im]; rfl) (by solve_by_elim) rfl rfl ?_; simp only [go_sem, reduceCtorEq, List.length_map, List.getElem?_map, hx, hx', dlA, e2, e3, e4, e5, hw, hs]) | (refine AX.lookup rfl (by first | exact tM65 | exact tM66) (by first | exact tG2 | exact tG3 | exact tG4 | exact tG5 | exact tG7 | exact tG9 | exact tG12 | exact tG13 | exact tG18 | exact tG19 | exact tG20 | exact tG21 | exact tG22 | exact tG23 | exact tG25 | exact tG26 | exact tG27 | exact tG34 | exact tG36 | exact tG37 | exact tG38 | exact tG46 | exact tG49 | exact tG50 | exact tG51 | exact tG58 | exact tG59 | exact tG65 | exact tG66 | exact tG69 | exact tG70 | exact tG72 | exact tG74 | exact tG75 | exact tG79 | exact tG80 | exact tG87 | exact tG90 | exact tG95 | exact tG96 | exact tG100 | exact tG103 | exact tG111 | exact tG117 | exact tG121 | exact tG128 | exact tG134 | exact tG142 | exact tG145 | exact tG148) (by first | exact kd9) rfl rfl rfl (by assumption) rfl ?_; simp only [go_sem, reduceCtorEq, List.length_map, List.getElem?_map, hx, hx', dlA, e2, e3, e4, e5, hw, hs]) | (refine AX.mapUpdate rfl rfl (by first | exact tM65 | exact tM66) (by first | exact kd9) rfl rfl rfl (by assumption) rfl (by simp only [go_sem, reduceCtorEq, List.length_map, List.getElem?_map, hx, hx', dlA, e2, e3, e4, e5, hw, hs]) ?_; simp only [go_sem, reduceCtorEq, List.length_map, List.getElem?_map, hx, hx', dlA, e2, e3, e4, e5, hw, hs]) | (refine AX.makeMap rfl (by first | exact tM65 | exact tM66) rfl ?_; simp only [go_sem, reduceCtorEq, List.length_map, List.getElem?_map, hx, hx', dlA, e2, e3, e4, e5, hw, hs]) | (refine AX.lenMap rfl (by first | exact tM65 | exact tM66) rfl rfl rfl ?_; simp only [go_sem, reduceCtorEq, List.length_map, List.getElem?_map, hx, hx', dlA, e2, e3, e4, e5, hw, hs]) | (refine AX.range rfl (by first | exact tM65 | exact tM66) rfl rfl rfl ?_; simp only [go_sem, reduceCtorEq, List.length_map, List.getElem?_map, hx, hx', dlA, e2, e3, e4, e5, hw, hs]) | (refine AX.appendStr rfl (by first | exact tL22 | exact tL23 | exact tL25 | exact tL34 | exact tL36 | exact tL50 | exact tL100) (by simp only [go_sem]) (by simp only [go_sem]) (by simp only [go_sem]) rfl rfl rfl rfl (by simp only [go_sem, reduceCtorEq, List.length_map, List.getElem?_map, hx, hx', dlA, e2, e3, e4, e5, hw, hs]; first | omega | (simp; omega)) ?_; simp only [go_sem, reduceCtorEq, List.length_map, List.getElem?_map, hx, hx', dlA, e2, e3, e4, e5, hw, hs]) | (refine AX.shr rfl rfl rfl rfl (by first | decide | omega) ?_; simp only [go_sem, reduceCtorEq, List.length_map, List.getElem?_map, hx, hx', dlA, e2, e3, e4, e5, hw, hs]) | (refine AX.shl rfl rfl rfl rfl (by first | decide | omega) ?_; simp only [go_sem, reduceCtorEq, List.length_map, List.getElem?_map, hx, hx', dlA, e2, e3, e4, e5, hw, hs]) | (refine AX.bits rfl rfl rfl (by assumption) rfl ?_; simp only [go_sem, reduceCtorEq, List.length_map, List.getElem?_map, hx, hx', dlA, e2, e3, e4, e5, hw, hs]) | (refine AX.nilSl rfl (by first | exact tL22 | exact tL23 | exact tL25 | exact tL34 | exact tL36 | exact tL50 | exact tL100) (by first | exact .inl rfl | exact .inr rfl) rfl rfl rfl ?_; simp only [go_sem, reduceCtorEq, List.length_map, List.getElem?_map, hx, hx', dlA, e2, e3, e4, e5, hw, hs]))
      | ((show indepK _ _ _ _ = true ∧ _); refine And.intro (by kernel_rfl) ?_)
      | ((show _ ∧ _); refine And.intro (by first | omega | assumption | (simp only [go_sem]; omega) | (simp; omega) | (simp; done)) ?_)
      | (refine hK _ ?_; clear hK K)
      | (clear hK K; refine hK _ ?_; clear hK K)
      | (clear hK K; clear hK K; refine hK _ ?_; clear hK K)
      | (clear hK K; clear hK K; clear hK K; refine hK _ ?_; clear hK K)
      | fail)
    refine hKL.to (i + 1) (by omega) (by omega) (Fits.fit [(0, 0), (1, 1)] [6, 7, 8, 10, 11, 12, 13, 14, 15] 2 rfl rfl ?_)
    simp only [go_sem]
    exact Fits.rfl
  have e2 : decide ((i : Int) < B.length) = false := by simp; omega
  obtain rfl : i = S.length := by omega
  clear hKL
  repeat' (first
    | ((show W _ _ _ _); first | (refine W.seq fun K hK => ?_) | refine W.block ?_ | (refine W.reg rfl ?_; simp only [go_sem, reduceCtorEq, List.length_map, e2, List.take_length]) | (refine W.regD Try_mo rfl rfl ?_; simp only [go_sem, reduceCtorEq, List.length_map, e2, List.take_length]) | (refine W.skip ?_; simp only [go_sem]) | (refine W.exit ?_; simp only [go_sem]) | (refine W.ret (Post.ret ?_); simp only [go_sem, reduceCtorEq, List.length_map, e2, List.take_length]) | refine W.condT rfl ?_ | refine W.condF rfl ?_ | refine W.cond rfl (fun h => ?_) (fun h => ?_))
    | ((show AX _ _ _ _ _); first | (refine AX.pcall rfl rfl (by simp only [go_sem, unim_im]; rfl) (by solve_by_elim) rfl rfl ?_; simp only [go_sem, reduceCtorEq, List.length_map, e2, List.take_length]) | (refine AX.pcallF rfl rfl (by simp only [go_sem, unim_im]; rfl) (by simp only [go_sem, unim_im]; rfl) (by solve_by_elim) rfl rfl ?_; simp only [go_sem, reduceCtorEq, List.length_map, e2, List.take_length]) | (refine AX.lookup rfl (by first | exact tM65 | exact tM66) (by first | exact tG2 | exact tG3 | exact tG4 | exact tG5 | exact tG7 | exact tG9 | exact tG12 | exact tG13 | exact tG18 | exact tG19 | exact tG20 | exact tG21 | exact tG22 | exact tG23 | exact tG25 | exact tG26 | exact tG27 | exact tG34 | exact tG36 | exact tG37 | exact tG38 | exact tG46 | exact tG49 | exact tG50 | exact tG51 | exact tG58 | exact tG59 | exact tG65 | exact tG66 | exact tG69 | exact tG70 | exact tG72 | exact tG74 | exact tG75 | exact tG79 | exact tG80 | exact tG87 | exact tG90 | exact tG95 | exact tG96 | exact tG100 | exact tG103 | exact tG111 | exact tG117 | exact tG121 | exact tG128 | exact tG134 | exact tG142 | exact tG145 | exact tG148) (by first | exact kd9) rfl rfl rfl (by assumption) rfl ?_; simp only [go_sem, reduceCtorEq, List.length_map, e2, List.take_length]) | (refine AX.mapUpdate rfl rfl (by first | exact tM65 | exact tM66) (by first | exact kd9) rfl rfl rfl (by assumption) rfl (by simp only [go_sem, reduceCtorEq, List.length_map, e2, List.take_length]) ?_; simp only [go_sem, reduceCtorEq, List.length_map, e2, List.take_length]) | (refine AX.makeMap rfl (by first | exact tM65 | exact tM66) rfl ?_; simp only [go_sem, reduceCtorEq, List.length_map, e2, List.take_length]) | (refine AX.lenMap rfl (by first | exact tM65 | exact tM66) rfl rfl rfl ?_; simp only [go_sem, reduceCtorEq, List.length_map, e2, List.take_length]) | (refine AX.range rfl (by first | exact tM65 | exact tM66) rfl rfl rfl ?_; simp only [go_sem, reduceCtorEq, List.length_map, e2, List.take_length]) | (refine AX.appendStr rfl (by first | exact tL22 | exact tL23 | exact tL25 | exact tL34 | exact tL36 | exact tL50 | exact tL100) (by simp only [go_sem]) (by simp only [go_sem]) (by simp only [go_sem]) rfl rfl rfl rfl (by simp only [go_sem, reduceCtorEq, List.length_map, e2, List.take_length]; first | omega | (simp; omega)) ?_; simp only [go_sem, reduceCtorEq, List.length_map, e2, List.take_length]) | (refine AX.shr rfl rfl rfl rfl (by first | decide | omega) ?_; simp only [go_sem, reduceCtorEq, List.length_map, e2, List.take_length]) | (refine AX.shl rfl rfl rfl rfl (by first | decide | omega) ?_; simp only [go_sem, reduceCtorEq, List.length_map, e2, List.take_length]) | (refine AX.bits rfl rfl rfl (by assumption) rfl ?_; simp only [go_sem, reduceCtorEq, List.length_map, e2, List.take_length]) | (refine AX.nilSl rfl (by first | exact tL22 | exact tL23 | exact tL25 | exact tL34 | exact tL36 | exact tL50 | exact tL100) (by first | exact .inl rfl | exact .inr rfl) rfl rfl rfl ?_; simp only [go_sem, reduceCtorEq, List.length_map, e2, List.take_length]))
    | ((show indepK _ _ _ _ = true ∧ _); refine And.intro (by kernel_rfl) ?_)
    | ((show _ ∧ _); refine And.intro (by first | omega | assumption | (simp only [go_sem]; omega) | (simp; omega) | (simp; done)) ?_)
    | (refine hK _ ?_; clear hK K)
    | (clear hK K; refine hK _ ?_; clear hK K)
    | (clear hK K; clear hK K; refine hK _ ?_; clear hK K)
    | (clear hK K; clear hK K; clear hK K; refine hK _ ?_; clear hK K)
    | fail)
  refine W.loopF (T := fun i : Nat => { t := [(6, ft (.bool false)), (7, .c (.ptr 0 0)), (8, .c (.ptr 1 0)), (10, .c (.im (.sl 38 ((addAll S (X.take i)).map dlA)))), (12, .c (.im (.sl 38 (X.map dlA)))), (13, .c (.im (.sl 38 (Y.map dlA)))), (14, ft (.int .i64 (tot S))), (16, ft (.int .i64 (i : Nat)))], h := [(0, .box 27 [fl (.string s), fl (.string o), .im (.sl 27 (avs ks))]), (1, .box 27 [fl (.string s1), fl (.string o1), .im (.sl 27 (avs ks1))])], nx := 2, ex := [], nt := 119 })
    (Inv := fun i => i ≤ X.length) (μ := fun i => X.length - i) (x0 := 0) (Fits.fit [(0, 0), (1, 1)] [6, 7, 8, 10, 12, 13, 14, 16] 2 rfl rfl ?_) (Nat.zero_le _) ?_
  · simp only [go_sem, List.take_zero, addAll, List.foldl_nil]
    exact Fits.rfl
  intro i hi KL hKL
  by_cases hlt : i < X.length
  · obtain ⟨⟨pp, m⟩, hx, hm, hd⟩ := drop_at hlt
    have e2 : decide ((i : Int) < X.length) = true := by simp; omega
    have hw := w64s i (by omega)
    have hal := addAll_len (X.take i) S
    rw [List.length_take] at hal
    have c22 := with_c (addAll S (X.take i)) pp m (by omega)
    have hat := addAll_at (l := S) hx
    simp only [lsT] at c22 hat
    rw [← hat] at c22
    repeat' (first
      | ((show W _ _ _ _); first | (refine W.seq fun K hK => ?_) | refine W.block ?_ | (refine W.reg rfl ?_; simp only [go_sem, reduceCtorEq, List.length_map, List.getElem?_map, hx, dlA, e2, hw]) | (refine W.regD Try_mo rfl rfl ?_; simp only [go_sem, reduceCtorEq, List.length_map, List.getElem?_map, hx, dlA, e2, hw]) | (refine W.skip ?_; simp only [go_sem]) | (refine W.exit ?_; simp only [go_sem]) | (refine W.ret (Post.ret ?_); simp only [go_sem, reduceCtorEq, List.length_map, List.getElem?_map, hx, dlA, e2, hw]) | refine W.condT rfl ?_ | refine W.condF rfl ?_ | refine W.cond rfl (fun h => ?_) (fun h => ?_))
      | ((show AX _ _ _ _ _); first | (refine AX.pcall rfl rfl (by simp only [go_sem, unim_im]; rfl) (by solve_by_elim) rfl rfl ?_; simp only [go_sem, reduceCtorEq, List.length_map, List.getElem?_map, hx, dlA, e2, hw]) | (refine AX.pcallF rfl rfl (by simp only [go_sem, unim_im]; rfl) (by simp only [go_sem, unim_im]; rfl) (by solve_by_elim) rfl rfl ?_; simp only [go_sem, reduceCtorEq, List.length_map, List.getElem?_map, hx, dlA, e2, hw]) | (refine AX.lookup rfl (by first | exact tM65 | exact tM66) (by first | exact tG2 | exact tG3 | exact tG4 | exact tG5 | exact tG7 | exact tG9 | exact tG12 | exact tG13 | exact tG18 | exact tG19 | exact tG20 | exact tG21 | exact tG22 | exact tG23 | exact tG25 | exact tG26 | exact tG27 | exact tG34 | exact tG36 | exact tG37 | exact tG38 | exact tG46 | exact tG49 | exact tG50 | exact tG51 | exact tG58 | exact tG59 | exact tG65 | exact tG66 | exact tG69 | exact tG70 | exact tG72 | exact tG74 | exact tG75 | exact tG79 | exact tG80 | exact tG87 | exact tG90 | exact tG95 | exact tG96 | exact tG100 | exact tG103 | exact tG111 | exact tG117 | exact tG121 | exact tG128 | exact tG134 | exact tG142 | exact tG145 | exact tG148) (by first | exact kd9) rfl rfl rfl (by assumption) rfl ?_; simp only [go_sem, reduceCtorEq, List.length_map, List.getElem?_map, hx, dlA, e2, hw]) | (refine AX.mapUpdate rfl rfl (by first | exact tM65 | exact tM66) (by first | exact kd9) rfl rfl rfl (by assumption) rfl (by simp only [go_sem, reduceCtorEq, List.length_map, List.getElem?_map, hx, dlA, e2, hw]) ?_; simp only [go_sem, reduceCtorEq, List.length_map, List.getElem?_map, hx, dlA, e2, hw]) | (refine AX.makeMap rfl (by first | exact tM65 | exact tM66) rfl ?_; simp only [go_sem, reduceCtorEq, List.length_map, List.getElem?_map, hx, dlA, e2, hw]) | (refine AX.lenMap rfl (by first | exact tM65 | exact tM66) rfl rfl rfl ?_; simp only [go_sem, reduceCtorEq, List.length_map, List.getElem?_map, hx, dlA, e2, hw]) | (refine AX.range rfl (by first | exact tM65 | exact tM66) rfl rfl rfl ?_; simp only [go_sem, reduceCtorEq, List.length_map, List.getElem?_map, hx, dlA, e2, hw]) | (refine AX.appendStr rfl (by first | exact tL22 | exact tL23 | exact tL25 | exact tL34 | exact tL36 | exact tL50 | exact tL100) (by simp only [go_sem]) (by simp only [go_sem]) (by simp only [go_sem]) rfl rfl rfl rfl (by simp only [go_sem, reduceCtorEq, List.length_map, List.getElem?_map, hx, dlA, e2, hw]; first | omega | (simp; omega)) ?_; simp only [go_sem, reduceCtorEq, List.length_map, List.getElem?_map, hx, dlA, e2, hw]) | (refine AX.shr rfl rfl rfl rfl (by first | decide | omega) ?_; simp only [go_sem, reduceCtorEq, List.length_map, List.getElem?_map, hx, dlA, e2, hw]) | (refine AX.shl rfl rfl rfl rfl (by first | decide | omega) ?_; simp only [go_sem, reduceCtorEq, List.length_map, List.getElem?_map, hx, dlA, e2, hw]) | (refine AX.bits rfl rfl rfl (by assumption) rfl ?_; simp only [go_sem, reduceCtorEq, List.length_map, List.getElem?_map, hx, dlA, e2, hw]) | (refine AX.nilSl rfl (by first | exact tL22 | exact tL23 | exact tL25 | exact tL34 | exact tL36 | exact tL50 | exact tL100) (by first | exact .inl rfl | exact .inr rfl) rfl rfl rfl ?_; simp only [go_sem, reduceCtorEq, List.length_map, List.getElem?_map, hx, dlA, e2, hw]))
      | ((show indepK _ _ _ _ = true ∧ _); refine And.intro (by kernel_rfl) ?_)
      | ((show _ ∧ _); refine And.intro (by first | omega | assumption | (simp only [go_sem]; omega) | (simp; omega) | (simp; done)) ?_)
      | (refine hK _ ?_; clear hK K)
      | (clear hK K; refine hK _ ?_; clear hK K)
      | (clear hK K; clear hK K; refine hK _ ?_; clear hK K)
      | (clear hK K; clear hK K; clear hK K; refine hK _ ?_; clear hK K)
      | fail)
    refine hKL.to (i + 1) (by omega) (by omega) (Fits.fit [(0, 0), (1, 1)] [6, 7, 8, 10, 12, 13, 14, 16] 2 rfl rfl ?_)
    simp only [go_sem]
    exact Fits.rfl
  have e2 : decide ((i : Int) < X.length) = false := by simp; omega
  obtain rfl : i = X.length := by omega
  rw [List.take_length, hfold]
  clear hKL
  have hll : (tot S == tot S) = true := by simp
  repeat' (first
    | ((show W _ _ _ _); first | (refine W.seq fun K hK => ?_) | refine W.block ?_ | (refine W.reg rfl ?_; simp only [go_sem, reduceCtorEq, List.length_map, e2, hlast, hll]) | (refine W.regD Try_mo rfl rfl ?_; simp only [go_sem, reduceCtorEq, List.length_map, e2, hlast, hll]) | (refine W.skip ?_; simp only [go_sem]) | (refine W.exit ?_; simp only [go_sem]) | (refine W.ret (Post.ret ?_); simp only [go_sem, reduceCtorEq, List.length_map, e2, hlast, hll]) | refine W.condT rfl ?_ | refine W.condF rfl ?_ | refine W.cond rfl (fun h => ?_) (fun h => ?_))
    | ((show AX _ _ _ _ _); first | (refine AX.pcall rfl rfl (by simp only [go_sem, unim_im]; rfl) (by solve_by_elim) rfl rfl ?_; simp only [go_sem, reduceCtorEq, List.length_map, e2, hlast, hll]) | (refine AX.pcallF rfl rfl (by simp only [go_sem, unim_im]; rfl) (by simp only [go_sem, unim_im]; rfl) (by solve_by_elim) rfl rfl ?_; simp only [go_sem, reduceCtorEq, List.length_map, e2, hlast, hll]) | (refine AX.lookup rfl (by first | exact tM65 | exact tM66) (by first | exact tG2 | exact tG3 | exact tG4 | exact tG5 | exact tG7 | exact tG9 | exact tG12 | exact tG13 | exact tG18 | exact tG19 | exact tG20 | exact tG21 | exact tG22 | exact tG23 | exact tG25 | exact tG26 | exact tG27 | exact tG34 | exact tG36 | exact tG37 | exact tG38 | exact tG46 | exact tG49 | exact tG50 | exact tG51 | exact tG58 | exact tG59 | exact tG65 | exact tG66 | exact tG69 | exact tG70 | exact tG72 | exact tG74 | exact tG75 | exact tG79 | exact tG80 | exact tG87 | exact tG90 | exact tG95 | exact tG96 | exact tG100 | exact tG103 | exact tG111 | exact tG117 | exact tG121 | exact tG128 | exact tG134 | exact tG142 | exact tG145 | exact tG148) (by first | exact kd9) rfl rfl rfl (by assumption) rfl ?_; simp only [go_sem, reduceCtorEq, List.length_map, e2, hlast, hll]) | (refine AX.mapUpdate rfl rfl (by first | exact tM65 | exact tM66) (by first | exact kd9) rfl rfl rfl (by assumption) rfl (by simp only [go_sem, reduceCtorEq, List.length_map, e2, hlast, hll]) ?_; simp only [go_sem, reduceCtorEq, List.length_map, e2, hlast, hll]) | (refine AX.makeMap rfl (by first | exact tM65 | exact tM66) rfl ?_; simp only [go_sem, reduceCtorEq, List.length_map, e2, hlast, hll]) | (refine AX.lenMap rfl (by first | exact tM65 | exact tM66) rfl rfl rfl ?_; simp only [go_sem, reduceCtorEq, List.length_map, e2, hlast, hll]) | (refine AX.range rfl (by first | exact tM65 | exact tM66) rfl rfl rfl ?_; simp only [go_sem, reduceCtorEq, List.length_map, e2, hlast, hll]) | (refine AX.appendStr rfl (by first | exact tL22 | exact tL23 | exact tL25 | exact tL34 | exact tL36 | exact tL50 | exact tL100) (by simp only [go_sem]) (by simp only [go_sem]) (by simp only [go_sem]) rfl rfl rfl rfl (by simp only [go_sem, reduceCtorEq, List.length_map, e2, hlast, hll]; first | omega | (simp; omega)) ?_; simp only [go_sem, reduceCtorEq, List.length_map, e2, hlast, hll]) | (refine AX.shr rfl rfl rfl rfl (by first | decide | omega) ?_; simp only [go_sem, reduceCtorEq, List.length_map, e2, hlast, hll]) | (refine AX.shl rfl rfl rfl rfl (by first | decide | omega) ?_; simp only [go_sem, reduceCtorEq, List.length_map, e2, hlast, hll]) | (refine AX.bits rfl rfl rfl (by assumption) rfl ?_; simp only [go_sem, reduceCtorEq, List.length_map, e2, hlast, hll]) | (refine AX.nilSl rfl (by first | exact tL22 | exact tL23 | exact tL25 | exact tL34 | exact tL36 | exact tL50 | exact tL100) (by first | exact .inl rfl | exact .inr rfl) rfl rfl rfl ?_; simp only [go_sem, reduceCtorEq, List.length_map, e2, hlast, hll]))
    | ((show indepK _ _ _ _ = true ∧ _); refine And.intro (by kernel_rfl) ?_)
    | ((show _ ∧ _); refine And.intro (by first | omega | assumption | (simp only [go_sem]; omega) | (simp; omega) | (simp; done)) ?_)
    | (refine hK _ ?_; clear hK K)
    | (clear hK K; refine hK _ ?_; clear hK K)
    | (clear hK K; clear hK K; refine hK _ ?_; clear hK K)
    | (clear hK K; clear hK K; clear hK K; refine hK _ ?_; clear hK K)
    | fail)
theorem adds_true (c35 : SortC Try.prog 35 3) (c55 : SortC Try.prog 55 2) (p q r : List Nat) (hp : ∀ x ∈ p, x < 256) (hq : ∀ x ∈ q, x < 256) (hr : ∀ x ∈ r, x < 256) : PCall Try.prog 4 [planT p, planT q, planT r] (ft (.bool true)) := by
  have hsp := madeP_size p
  have hsq := madeP_size q
  have hsr := madeP_size r
  have htp := madeP_tw p
  have htq := madeP_tw q
  have htr := madeP_tw r
  have hop := madeP_okS p
  have hoq := madeP_okS q
  have hor := madeP_okS r
  have cp := made_c p hp
  have cq := made_c q hq
  have cr := made_c r hr
  generalize madeP p = x at *
  generalize madeP q = y at *
  generalize madeP r = z at *
  have h1 := diff_spec x y (by omega)
  have h3 := diff_spec y z (by omega)
  have h4 := diff_spec x z (by omega)
  have hb := diff_back x y (by omega)
  have ht := diff_tot x y (by omega)
  have l1 := diff_len x y
  have l3 := diff_len y z
  have hB1 : Bnd 1000 (x.diff y) := fun d hd => by have := h1.2.1 d hd; omega
  have hB3 : Bnd 1000 (y.diff z) := fun d hd => by have := h3.2.1 d hd; omega
  refine adds_c p q r x y z (x.diff y) (y.diff x) (y.diff z) (x.diff z) (known_all c35 c55) cp cq cr (diff_is c55 _ _ hop hoq (by omega) (by omega)) (diff_is c55 _ _ hoq hop (by omega) (by omega)) (diff_is c55 _ _ hoq hor (by omega) (by omega)) (diff_is c55 _ _ hop hor (by omega) (by omega)) (all16 _ (by omega)) (all16 _ (by omega)) (by rw [hb]; simp [negD]) ?_ ?_ ?_ (by omega) ?_
  · intro i p m q n hx hy
    rw [hb] at hy
    simp only [negD, List.getElem?_map, hx, Option.map_some, Option.some.injEq, Prod.mk.injEq] at hy
    obtain ⟨rfl, rfl⟩ := hy
    have hm := h1.1.nz _ (List.mem_of_getElem? hx)
    have hbm := hB1 _ (List.mem_of_getElem? hx)
    simp only at hm hbm
    refine ⟨lwPath.refl _, ?_, hm⟩
    rw [w64 (by omega) (by omega)]
    omega
  · intro i d hx
    have hbm := hB1 _ (List.mem_of_getElem? hx)
    have hbt := tot_bnd (n := 1000) (by omega) (l := (x.diff y).take i) fun d hd => hB1 d (List.mem_of_mem_take hd)
    have hlt : ((x.diff y).take i).length ≤ 194 := by rw [List.length_take]; omega
    rw [take_at hx, tot_app]
    simp only [tot, Int.add_zero]
    exact w64 (by omega) (by omega)
  · rw [ht]
    exact w64 (by omega) (by omega)
  · have h5 := addAll_spec (m := 1000) (by omega) (y.diff z) (x.diff y) 1000 hB3 (by omega) (by omega) h1.1 hB1
    exact nrm_ext h5.1 h4.1 fun q => by rw [h5.2, h1.2.2, h3.2.2, h4.2.2]; omega
end Go.Proofs.Ytegcmciglakicaa
namespace Go.Proofs.Ytegcmciglakicaa
open Go.ChangeShapes Go.WideShapes Go.ChangeAt Go.RowKit Go.Exe
set_option maxRecDepth 100000
set_option maxHeartbeats 1600000

def addsC : Prop := ∀ a b c : List Nat, (∀ x ∈ a, x < 256) → (∀ x ∈ b, x < 256) → (∀ x ∈ c, x < 256) → PCall Try.prog 4 [planT a, planT b, planT c] (ft (.bool true))
theorem adds_lifted (hc : addsC) (os : Os) (started : os.Started) (H : Type) (enc : TypeId × Value → H) :
    ReturnsInHanded {} Try.checked os 4 .any (Rows.shapeAddsSpec.pre6 enc Try.prog Try.f4 Rows.shapeAddsRow.domain false) (Rows.shapeAddsSpec.post enc Try.prog Try.f4 false Rows.shapeAddsRow.fresh Rows.shapeAddsRow.handsOn Rows.shapeAddsRow.again) := by
  refine returnsInHanded_of_change_sized (C := Try.checked) Try.own started (by kernel_rfl) Try.func4
    (ChangeSpec.witness6 (enc := enc) (C := Try.checked) false ⟨#[], #[.slice none 0 0, .slice none 0 0, .slice none 0 0], []⟩ 8 (by kernel_rfl) (by kernel_rfl) (by kernel_rfl) (by kernel_rfl)) ?_
  intro W base args ds gs before hval0 hW _ hsz0 _
  have hsz : (DataW.weightsEach Try.prog (Try.f4.params.toList ++ Rows.shapeAddsSpec.plain.varTypes Try.prog) (ds ++ gs)).all (· ≤ reachBytes) = true := hsz0
  clear hsz0
  have hval : ∀ (j : Nat) t v, Try.f4.params[j]? = some t → args[j]? = some v → Value.okWide Try.prog W .any base t v := hval0
  have hW' := hW
  obtain ⟨p, q, hA0, hV, rfl, hfz, hnd⟩ := hW
  have hA : DataW.TrodAll enc Try.prog W 0 (fun _ => true) true Try.f4.params.toList args.toList ds p := hA0
  rw [Try.params4] at hA hval hsz
  obtain ⟨v0, v1, v2, d0, d1, d2, p0, p1, p2, rfl, rfl, rfl, h0, h1, h2⟩ := trodAll_three hA
  obtain ⟨rfl, rfl⟩ := trodVars_none hV
  clear hA0 hval0
  simp only [List.append_nil] at hW'
  obtain ⟨a, ha0, ra0⟩ := plan_in (j := 0) (hval 0 23 v0 rfl rfl) h0 hsz rfl rfl
  obtain ⟨b, ha1, ra1⟩ := plan_in (j := 1) (hval 1 23 v1 rfl rfl) h1 hsz rfl rfl
  obtain ⟨c, ha2, ra2⟩ := plan_in (j := 2) (hval 2 23 v2 rfl rfl) h2 hsz rfl rfl
  have hlt : ∀ x ∈ p0 ++ p1 ++ p2, x.block < W.heap.size := fun x hx => by simpa using hW'.lt x hx
  have hargs : ∀ (W' : World), Below W.heap.size W W' → DataW.TrodAll enc Try.prog W' 0 (fun b => decide (b < W.heap.size)) true Try.f4.params.toList [v0, v1, v2] [d0, d1, d2] (p0 ++ p1 ++ p2) := fun W' hn => by
    have k : ∀ {v d ps}, DataW.Trod enc Try.prog W 0 (fun _ => true) true 23 v d ps → (∀ x ∈ ps, x.block < W.heap.size) → DataW.Trod enc Try.prog W' 0 (fun b => decide (b < W.heap.size)) true 23 v d ps :=
      fun h hl => Below.trod Try.laidOut (by kernel_rfl) (of_decide_eq_true (by kernel_rfl)) h hn hl
    rw [Try.params4, List.append_assoc]
    exact trodAll_mk3 (k h0 fun x hx => hlt x (by simp [hx])) (k h1 fun x hx => hlt x (by simp [hx])) (k h2 fun x hx => hlt x (by simp [hx]))
  have hcall := (hc a b c ha0 ha1 ha2).2 (fun _ => True) W [v0, v1, v2] (Al.cons ra0 (Al.cons ra1 (Al.cons ra2 Al.nil)))
  refine hcall.mono fun e W' ⟨v, he, ⟨hB, _⟩, hr⟩ => ?_
  subst he
  obtain rfl : v = .bool true := RepA.flat_eq hr
  refine ⟨_, rfl, _, _, _, [], p0 ++ p1 ++ p2, [], hW', ?_, ?_, ?_, hB.frame _, fun h => by cases h⟩
  · exact trodAll_mk1 (shut_bool Try.underlying4 true)
  · exact hargs W' hB
  · rfl
theorem adds_holds (hc : addsC) : Rows.ShapeAddsSaid :=
  OpenClaim.holds_of_wide 4 Try.f4 rfl rfl rfl rfl rfl rfl rfl ⟨rfl, rfl, rfl, rfl, rfl⟩ rfl rfl rfl rfl rfl (by kernel_rfl) Try.func4 (by kernel_rfl)
    (of_decide_eq_true (by kernel_rfl)) (by unfold Func.isWrapper; rw [if_neg (by decide +kernel)]; exact ⟨rfl, rfl⟩)
    (fun os started H enc _ => adds_lifted hc os started H enc)
end Go.Proofs.Ytegcmciglakicaa
namespace Go.Proofs.Ytegcmciglakicaa
theorem ytegcmciglakicaa_shapeAdds_holds : Rows.ShapeAddsSaid := adds_holds (fun p q r hp hq hr => adds_true sort35_c sort55_c p q r hp hq hr)
end Go.Proofs.Ytegcmciglakicaa
