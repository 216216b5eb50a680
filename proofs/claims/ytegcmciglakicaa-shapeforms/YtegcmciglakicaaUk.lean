import Derived.Test.YtegcmciglakicaaUj
import Derived.Sort.Walk0
namespace Go.Proofs.Ytegcmciglakicaa
open Go.RowKit Go.Exe
set_option linter.unusedVariables false
set_option linter.unusedSimpArgs false
set_option maxRecDepth 100000

/-- An order told by a number. -/
structure Lw {α : Type} (cm : α → α → Int) : Prop where
  anti : ∀ a b, cm b a = - cm a b
  tr : ∀ a b c, cm a b ≤ 0 → cm b c ≤ 0 → cm a c ≤ 0
  eq : ∀ a b, cm a b = 0 → a = b
theorem Lw.refl {α : Type} {cm : α → α → Int} (h : Lw cm) (a : α) : cm a a = 0 := by have := h.anti a a; omega
theorem Lw.lt1 {α : Type} {cm : α → α → Int} (h : Lw cm) {a b c : α} (h1 : cm a b < 0) (h2 : cm b c ≤ 0) : cm a c < 0 := by
  have h3 := h.tr a b c (by omega) h2
  by_cases h4 : cm a c = 0
  · have := h.eq a c h4
    subst this
    have := h.anti a b
    omega
  · omega
theorem Lw.lt2 {α : Type} {cm : α → α → Int} (h : Lw cm) {a b c : α} (h1 : cm a b ≤ 0) (h2 : cm b c < 0) : cm a c < 0 := by
  have h3 := h.tr a b c h1 (by omega)
  by_cases h4 : cm a c = 0
  · have := h.eq a c h4
    subst this
    have := h.anti a b
    omega
  · omega
theorem cmpsG_anti {α : Type} {cm : α → α → Int} : ∀ (x y : List α), (∀ a ∈ x, ∀ b ∈ y, cm b a = - cm a b) → cmpsG cm y x = - cmpsG cm x y
  | [], [], _ => rfl
  | [], _ :: _, _ => rfl
  | _ :: _, [], _ => rfl
  | a :: x, b :: y, h => by
    have h1 := h a (by simp) b (by simp)
    have h2 := cmpsG_anti x y fun a ha b hb => h a (by simp [ha]) b (by simp [hb])
    simp only [cmpsG]
    split <;> split <;> omega
theorem cmpsG_eq {α : Type} {cm : α → α → Int} : ∀ (x y : List α), (∀ a ∈ x, ∀ b ∈ y, cm a b = 0 → a = b) → cmpsG cm x y = 0 → x = y
  | [], [], _, _ => rfl
  | [], _ :: _, _, h => by simp [cmpsG] at h
  | _ :: _, [], _, h => by simp [cmpsG] at h
  | a :: x, b :: y, h, h0 => by
    simp only [cmpsG] at h0
    split at h0
    · omega
    · rename_i h1
      have e := h a (by simp) b (by simp) (by omega)
      have := cmpsG_eq x y (fun a ha b hb => h a (by simp [ha]) b (by simp [hb])) h0
      rw [e, this]
theorem cmpsG_tr {α : Type} {cm : α → α → Int} : ∀ (x y z : List α), (∀ a ∈ x, ∀ b, cm b a = - cm a b) → (∀ a ∈ x, ∀ b c, cm a b ≤ 0 → cm b c ≤ 0 → cm a c ≤ 0) → (∀ a ∈ x, ∀ b, cm a b = 0 → a = b) → (∀ a b, cm a b = 0 → a = b) → cmpsG cm x y ≤ 0 → cmpsG cm y z ≤ 0 → cmpsG cm x z ≤ 0
  | [], _, [], _, _, _, _, _, _ => by simp [cmpsG]
  | [], _, _ :: _, _, _, _, _, _, _ => by simp [cmpsG]
  | _ :: _, [], _, _, _, _, _, h, _ => by simp [cmpsG] at h
  | _ :: _, _ :: _, [], _, _, _, _, _, h => by simp [cmpsG] at h
  | a :: x, b :: y, c :: z, ha, ht, he, he2, h1, h2 => by
    have ih := cmpsG_tr x y z (fun a h => ha a (by simp [h])) (fun a h => ht a (by simp [h])) (fun a h => he a (by simp [h])) he2
    have t1 := ht a (by simp) b c
    have n1 := ha a (by simp) b
    have n2 := ha a (by simp) c
    simp only [cmpsG] at h1 h2 ⊢
    split at h1
    · split at h2
      · have t2 := t1 h1 h2
        split
        · exact t2
        · rename_i h3 h4 h5
          have := he a (by simp) c (by omega)
          subst this
          omega
      · rename_i h3 h4
        have := he2 b c (by omega)
        subst this
        rw [if_pos h3]; exact h1
    · rename_i h3
      have := he a (by simp) b (by omega)
      subst this
      split at h2
      · rename_i h4
        rw [if_pos h4]; exact h2
      · rename_i h4
        rw [if_neg h4]; exact ih h1 h2
theorem Lw.list {α : Type} {cm : α → α → Int} (h : Lw cm) : Lw (cmpsG cm) :=
  ⟨fun x y => cmpsG_anti x y fun a _ b _ => h.anti a b, fun x y z => cmpsG_tr x y z (fun a _ b => h.anti a b) (fun a _ b c => h.tr a b c) (fun a _ b => h.eq a b) h.eq, fun x y => cmpsG_eq x y fun a _ b _ => h.eq a b⟩
def cmpU (a b : UInt8) : Int := if a < b then -1 else if b < a then 1 else 0
theorem lwU : Lw cmpU := by
  refine ⟨fun a b => ?_, fun a b c h1 h2 => ?_, fun a b h => ?_⟩
  · simp only [cmpU, UInt8.lt_iff_toNat_lt]; split <;> split <;> omega
  · simp only [cmpU, UInt8.lt_iff_toNat_lt] at *; split at h1 <;> split at h2 <;> (try split at h1) <;> (try split at h2) <;> split <;> (try split) <;> omega
  · simp only [cmpU, UInt8.lt_iff_toNat_lt] at h
    apply UInt8.toNat_inj.1
    split at h
    · omega
    · split at h <;> omega
theorem cmpL_eq : ∀ (x y : List UInt8), (if Op.bytesLess x y then (-1 : Int) else if !(Op.bytesLess x y || x == y) then 1 else 0) = cmpsG cmpU x y
  | [], [] => by simp [Op.bytesLess, cmpsG]
  | [], _ :: _ => by simp [Op.bytesLess, cmpsG]
  | _ :: _, [] => by simp [Op.bytesLess, cmpsG]
  | a :: x, b :: y => by
    have ih := cmpL_eq x y
    simp only [cmpsG, ← ih, Op.bytesLess, cmpU]
    by_cases h1 : a < b
    · simp [h1]
    · by_cases h2 : b < a
      · have h3 : a ≠ b := fun e => by subst e; exact h1 h2
        simp [h1, h2, h3]
      · have h3 : a = b := by
          simp only [UInt8.lt_iff_toNat_lt] at h1 h2
          exact UInt8.toNat_inj.1 (by omega)
        subst h3
        simp [h1]
theorem lwB : Lw cmpB := by
  have key : ∀ a b, cmpB a b = cmpsG cmpU a.toList b.toList := fun a b => cmpL_eq _ _
  refine ⟨fun a b => ?_, fun a b c => ?_, fun a b h => ?_⟩
  · rw [key, key]; exact lwU.list.anti _ _
  · rw [key, key, key]; exact lwU.list.tr _ _ _
  · rw [key] at h
    have := lwU.list.eq _ _ h
    rw [ByteArray.toList_eq, ByteArray.toList_eq] at this
    exact ByteArray.ext (Array.toList_inj.1 this)
theorem cmpN_eq (a b : Nm) : cmpN a b = if cmpB a.1 b.1 ≠ 0 then cmpB a.1 b.1 else cmpB a.2 b.2 := by
  simp only [cmpN, orL]
  by_cases h : cmpB a.1 b.1 = 0
  · simp [h]
    exact fun h => h.symm
  · simp [h]
theorem lwN : Lw cmpN := by
  refine ⟨fun a b => ?_, fun a b c h1 h2 => ?_, fun a b h => ?_⟩
  · have := lwB.anti a.1 b.1
    have := lwB.anti a.2 b.2
    rw [cmpN_eq, cmpN_eq]
    split <;> split <;> omega
  · have l := lwU
    rw [cmpN_eq] at *
    by_cases e1 : cmpB a.1 b.1 = 0
    · have := lwB.eq _ _ e1
      rw [if_neg (by omega)] at h1
      rw [this]
      split at h2
      · rename_i h; rw [if_pos h]; exact h2
      · rename_i h; rw [if_neg h]; exact lwB.tr _ _ _ h1 h2
    · rw [if_pos e1] at h1
      by_cases e2 : cmpB b.1 c.1 = 0
      · have := lwB.eq _ _ e2
        rw [← this, if_pos e1]; exact h1
      · rw [if_pos e2] at h2
        have := lwB.lt1 (a := a.1) (b := b.1) (c := c.1) (by omega) h2
        rw [if_pos (by omega)]; omega
  · rw [cmpN_eq] at h
    split at h
    · omega
    · rename_i h1
      exact Prod.ext (lwB.eq _ _ (by omega)) (lwB.eq _ _ h)
theorem lwPath : Lw cmpPath := lwN.list
theorem cmps_G : ∀ l m : List Shp, cmps l m = cmpsG Shp.cmp l m
  | [], [] => by simp [cmps, cmpsG]
  | [], _ :: _ => by simp [cmps, cmpsG]
  | _ :: _, [] => by simp [cmps, cmpsG]
  | x :: r, y :: q => by simp only [cmps, cmpsG, cmps_G r q]
theorem cmp_mk (s o s' o' : ByteArray) (ks ks' : List Shp) : Shp.cmp (.mk s o ks) (.mk s' o' ks') = if cmpN (s, o) (s', o') ≠ 0 then cmpN (s, o) (s', o') else cmpsG Shp.cmp ks ks' := by
  rw [Shp.cmp, cmps_G]
  rfl
theorem shp_anti : ∀ x y : Shp, y.cmp x = - x.cmp y
  | .mk s o ks, .mk s' o' ks' => by
    have h1 := lwN.anti (s, o) (s', o')
    have h2 := cmpsG_anti ks ks' fun a ha b hb => shp_anti a b
    rw [cmp_mk, cmp_mk]
    split <;> split <;> omega
termination_by x => SizeOf.sizeOf x
decreasing_by
  have := List.sizeOf_lt_of_mem ha
  simp only [Shp.mk.sizeOf_spec]
  omega
theorem shp_eq : ∀ x y : Shp, x.cmp y = 0 → x = y
  | .mk s o ks, .mk s' o' ks', h => by
    rw [cmp_mk] at h
    split at h
    · omega
    · rename_i h1
      have h2 := lwN.eq _ _ (show cmpN (s, o) (s', o') = 0 by omega)
      have h3 := cmpsG_eq ks ks' (fun a ha b hb => shp_eq a b) h
      cases h2
      rw [h3]
termination_by x => SizeOf.sizeOf x
decreasing_by
  have := List.sizeOf_lt_of_mem ha
  simp only [Shp.mk.sizeOf_spec]
  omega
theorem shp_tr : ∀ x y z : Shp, x.cmp y ≤ 0 → y.cmp z ≤ 0 → x.cmp z ≤ 0
  | .mk s o ks, .mk s' o' ks', .mk s'' o'' ks'', h1, h2 => by
    have ht := cmpsG_tr ks ks' ks'' (fun a _ b => shp_anti a b) (fun a ha b c => shp_tr a b c) (fun a _ b => shp_eq a b) shp_eq
    rw [cmp_mk] at *
    by_cases e1 : cmpN (s, o) (s', o') = 0
    · have := lwN.eq _ _ e1
      rw [if_neg (by omega)] at h1
      rw [this]
      split at h2
      · rename_i h; rw [if_pos h]; exact h2
      · rename_i h; rw [if_neg h]; exact ht h1 h2
    · rw [if_pos e1] at h1
      by_cases e2 : cmpN (s', o') (s'', o'') = 0
      · have := lwN.eq _ _ e2
        rw [← this, if_pos e1]; exact h1
      · rw [if_pos e2] at h2
        have := lwN.lt1 (a := (s, o)) (b := (s', o')) (c := (s'', o'')) (by omega) h2
        rw [if_pos (by omega)]; omega
termination_by x => SizeOf.sizeOf x
decreasing_by
  have := List.sizeOf_lt_of_mem ha
  simp only [Shp.mk.sizeOf_spec]
  omega
theorem lwS : Lw Shp.cmp := ⟨shp_anti, shp_tr, shp_eq⟩
theorem Lw.ord {α : Type} {cm : α → α → Int} (h : Lw cm) (l : List α) : OrdOn cm l :=
  ⟨fun x _ h1 => by have := h.refl x; omega, fun x _ y _ z _ h1 h2 => h.lt1 h1 (by omega), fun x _ y _ z _ h1 h2 h3 => by
    have a1 := h.anti x y
    have a2 := h.anti y z
    have a3 := h.anti x z
    have := h.tr z y x (by omega) (by omega)
    omega⟩
theorem Lw.uni {α : Type} {cm : α → α → Int} (h : Lw cm) : ∀ {l m : List α}, l.Perm m → l.Pairwise (fun a b => ¬ cm b a < 0) → m.Pairwise (fun a b => ¬ cm b a < 0) → l = m
  | [], m, hp, _, _ => by rw [List.nil_perm.1 hp]
  | x :: r, [], hp, _, _ => by have := hp.length_eq; simp at this
  | x :: r, y :: q, hp, h1, h2 => by
    rw [List.pairwise_cons] at h1 h2
    have e : x = y := by
      have hx : x ∈ y :: q := hp.subset (by simp)
      have hy : y ∈ x :: r := hp.symm.subset (by simp)
      rcases List.mem_cons.1 hx with e | hx
      · exact e
      · rcases List.mem_cons.1 hy with e | hy
        · exact e.symm
        · have a1 := h1.1 y hy
          have a2 := h2.1 x hx
          have a3 := h.anti x y
          exact h.eq x y (by omega)
    subst e
    rw [Lw.uni h (List.perm_cons x |>.1 hp) h1.2 h2.2]
theorem ins1_perm (x : Shp) : ∀ l, (ins1 x l).Perm (x :: l)
  | [] => List.Perm.refl _
  | y :: r => by
    simp only [ins1]
    split
    · exact List.Perm.refl _
    · exact ((ins1_perm x r).cons y).trans (List.Perm.swap x y r)
theorem srt_perm : ∀ l, (srt l).Perm l
  | [] => List.Perm.refl _
  | x :: r => (ins1_perm x _).trans ((srt_perm r).cons x)
theorem ins1_sorted (x : Shp) : ∀ l : List Shp, l.Pairwise (fun a b => ¬ b.cmp a < 0) → (ins1 x l).Pairwise (fun a b => ¬ b.cmp a < 0)
  | [], _ => by simp [ins1]
  | y :: r, h => by
    simp only [ins1]
    have hc := List.pairwise_cons.1 h
    split
    · rename_i hl
      refine List.pairwise_cons.2 ⟨fun z hz => ?_, h⟩
      rcases List.mem_cons.1 hz with rfl | hz
      · have := lwS.anti x z; omega
      · have a1 := hc.1 z hz
        have a2 := lwS.anti z y
        have a3 := lwS.tr x y z (by omega) (by omega)
        have a4 := lwS.anti x z
        omega
    · rename_i hl
      refine List.pairwise_cons.2 ⟨fun z hz => ?_, ins1_sorted x r hc.2⟩
      rcases List.mem_cons.1 ((ins1_perm x r).subset hz) with rfl | hz
      · exact hl
      · exact hc.1 z hz
theorem srt_sorted : ∀ l, (srt l).Pairwise (fun a b => ¬ b.cmp a < 0)
  | [] => List.Pairwise.nil
  | x :: r => ins1_sorted x _ (srt_sorted r)
theorem srt_uni (l zs : List Shp) (hp : zs.Perm l) (hs : zs.Pairwise fun a b => ¬ b.cmp a < 0) : zs = srt l := lwS.uni (hp.trans (srt_perm l).symm) hs (srt_sorted l)
end Go.Proofs.Ytegcmciglakicaa
