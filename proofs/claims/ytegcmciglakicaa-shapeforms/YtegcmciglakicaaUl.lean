import Derived.Test.YtegcmciglakicaaUk
namespace Go.Proofs.Ytegcmciglakicaa
open Go.RowKit Go.Exe
set_option linter.unusedVariables false
set_option linter.unusedSimpArgs false
set_option maxRecDepth 100000

theorem srt_fix {l : List Shp} (h : l.Pairwise fun a b => ¬ b.cmp a < 0) : srt l = l := (srt_uni l l (List.Perm.refl _) h).symm
theorem canon_idem : ∀ x : Shp, x.canon.canon = x.canon
  | .mk s o ks => by
    have h : canons (srt (canons ks)) = srt (canons ks) := by
      rw [canons_map (srt (canons ks))]
      refine (List.map_congr_left fun y hy => ?_).trans (List.map_id _)
      have := (srt_perm (canons ks)).subset hy
      rw [canons_map] at this
      obtain ⟨x, hx, rfl⟩ := List.mem_map.1 this
      exact canon_idem x
    simp only [Shp.canon]
    rw [h, srt_fix (srt_sorted _)]
termination_by x => SizeOf.sizeOf x
decreasing_by
  have := List.sizeOf_lt_of_mem hx
  simp only [Shp.mk.sizeOf_spec]
  omega
theorem posR_spec (c : Shp) (l : List Shp) : ∀ n, n ≤ l.length → (∀ i x, posR c l n ≤ i → i < n → l[i]? = some x → x.cmp c > 0) ∧ (∀ i x, posR c l n = i + 1 → l[i]? = some x → ¬ x.cmp c > 0)
  | 0, _ => ⟨fun i x h1 h2 => by omega, fun i x h => by simp [posR] at h⟩
  | n + 1, hn => by
    obtain ⟨x0, hx0⟩ : ∃ x0, l[n]? = some x0 := ⟨l[n], List.getElem?_eq_getElem (by omega)⟩
    obtain ⟨h1, h2⟩ := posR_spec c l n (by omega)
    unfold posR
    rw [hx0]
    simp only
    split
    · rename_i hg
      refine ⟨fun i x a1 a2 a3 => ?_, h2⟩
      by_cases e : i = n
      · subst e; rw [hx0] at a3; cases a3; exact hg
      · exact h1 i x a1 (by omega) a3
    · rename_i hg
      refine ⟨fun i x a1 a2 => by omega, fun i x a1 a2 => ?_⟩
      have : i = n := by omega
      subst this; rw [hx0] at a2; cases a2; exact hg
theorem insM_perm (c : Shp) (l : List Shp) : (insM c l).Perm (c :: l) := by
  have h : (insM c l).Perm (c :: (l.take (posR c l l.length) ++ l.drop (posR c l l.length))) := by
    simp only [insM, List.append_assoc]
    exact List.perm_middle
  rwa [List.take_append_drop] at h
theorem insM_sorted (c : Shp) (l : List Shp) (h : l.Pairwise fun a b => ¬ b.cmp a < 0) : (insM c l).Pairwise fun a b => ¬ b.cmp a < 0 := by
  obtain ⟨h1, h2⟩ := posR_spec c l l.length (Nat.le_refl _)
  have hp := posR_le c l l.length
  have hlo : ∀ x ∈ l.take (posR c l l.length), x.cmp c ≤ 0 := fun x hx => by
    obtain ⟨i, hi, hx⟩ := List.mem_iff_getElem.1 hx
    rw [List.length_take] at hi
    rw [List.getElem_take] at hx
    have hq : (posR c l l.length) - 1 < l.length := by omega
    have h3 := h2 (posR c l l.length - 1) _ (by omega) (List.getElem?_eq_getElem hq)
    by_cases e : i = posR c l l.length - 1
    · subst e; subst hx; omega
    · have h4 := List.pairwise_iff_getElem.1 h i (posR c l l.length - 1) (by omega) hq (by omega)
      subst hx
      have a1 := lwS.anti l[i] l[posR c l l.length - 1]
      exact lwS.tr _ _ _ (by omega) (by omega : l[posR c l l.length - 1].cmp c ≤ 0)
  have hhi : ∀ x ∈ l.drop (posR c l l.length), x.cmp c > 0 := fun x hx => by
    obtain ⟨i, hi, hx⟩ := List.mem_iff_getElem.1 hx
    rw [List.length_drop] at hi
    rw [List.getElem_drop] at hx
    exact h1 (posR c l l.length + i) x (by omega) (by omega) (by rw [← hx]; exact List.getElem?_eq_getElem _)
  have hs : (l.take (posR c l l.length) ++ l.drop (posR c l l.length)).Pairwise fun a b => ¬ b.cmp a < 0 := by rw [List.take_append_drop]; exact h
  rw [List.pairwise_append] at hs
  simp only [insM, List.append_assoc]
  rw [List.pairwise_append]
  refine ⟨hs.1, List.pairwise_cons.2 ⟨fun b hb => ?_, hs.2.1⟩, fun a ha b hb => ?_⟩
  · have := hhi b (by simpa using hb); omega
  · have a1 := hlo a ha
    rcases List.mem_cons.1 (by simpa using hb) with rfl | hb
    · have := lwS.anti a b; omega
    · exact hs.2.2 a ha b hb
theorem mcanons_spec : ∀ (l acc : List Shp), acc.Pairwise (fun a b => ¬ b.cmp a < 0) → (mcanons acc l).Pairwise (fun a b => ¬ b.cmp a < 0) ∧ (mcanons acc l).Perm (acc ++ l.map Shp.mcanon)
  | [], acc, h => by simp only [mcanons, List.map_nil, List.append_nil]; exact ⟨h, List.Perm.refl _⟩
  | x :: r, acc, h => by
    obtain ⟨h1, h2⟩ := mcanons_spec r (insM x.mcanon acc) (insM_sorted _ _ h)
    simp only [mcanons, List.map_cons]
    refine ⟨h1, h2.trans ?_⟩
    exact ((insM_perm x.mcanon acc).append_right _).trans List.perm_middle.symm
theorem mcanon_eq : ∀ x : Shp, x.mcanon = x.canon
  | .mk s o ks => by
    obtain ⟨h1, h2⟩ := mcanons_spec ks [] List.Pairwise.nil
    have h3 : ks.map Shp.mcanon = canons ks := by
      rw [canons_map]
      exact List.map_congr_left fun x hx => mcanon_eq x
    rw [List.nil_append, h3] at h2
    simp only [Shp.mcanon, Shp.canon]
    rw [srt_uni _ _ h2 h1]
termination_by x => SizeOf.sizeOf x
decreasing_by
  have := List.sizeOf_lt_of_mem hx
  simp only [Shp.mk.sizeOf_spec]
  omega
mutual
theorem same_refl : ∀ x : Shp, x.same x = true
  | .mk s o ks => by simp [Shp.same, sames_refl ks]
theorem sames_refl : ∀ l : List Shp, sames l l = true
  | [] => by simp [sames]
  | x :: r => by simp [sames, same_refl x, sames_refl r]
end
theorem canon_self (x : Shp) : x.canon.cmp x.canon.canon = 0 := by rw [canon_idem]; exact lwS.refl _
end Go.Proofs.Ytegcmciglakicaa
