/-
  Xk: the operations that are reckoned are carried out so.
-/
import Derived.Test.YtegcmciglakicaaXj
namespace Go.Exe
open Go.RowKit
set_option linter.unusedVariables false
set_option linter.unusedSimpArgs false

section cong
variable {F : List Key} {s s1 : St}
theorem agree_ev (h : agreeOn F s s1) {y : Operand} (hy : ∀ x ∈ opK y, x ∈ F) : s1.ev y = s.ev y := by
  cases y with
  | tmp t => exact h (.t t) (hy _ (by simp [opK]))
  | const v => rfl
  | func f => rfl
  | global g => rfl
theorem agree_ob (h : agreeOn F s s1) {k : Nat} (hk : Key.h k ∈ F) : s1.ob k = s.ob k := h (.h k) hk
theorem agree_cell (h : agreeOn F s s1) {c : Cell} (hc : ∀ x ∈ cellK c, x ∈ F) (n e sz j : Nat) (ds : List Cell) (hi : Nat) : s1.rd n c = s.rd n c ∧ s1.wr ds c = s.wr ds c ∧ s1.len e c = s.len e c ∧ s1.elemAt e sz j c = s.elemAt e sz j c ∧ s1.cut e sz j hi c = s.cut e sz j hi c ∧ s1.src e sz c = s.src e sz c := by
  cases c with
  | ref k => have := agree_ob h (hc (.h k) (by simp [cellK])); simp only [St.rd, St.wr, St.len, St.elemAt, St.cut, St.src, this, and_self]
  | ptr k o => have := agree_ob h (hc (.h k) (by simp [cellK])); simp only [St.rd, St.wr, St.len, St.elemAt, St.cut, St.src, this, and_self]
  | rp k a b o => have := agree_ob h (hc (.h k) (by simp [cellK])); simp only [St.rd, St.wr, St.len, St.elemAt, St.cut, St.src, this, and_self]
  | vw k a b o => have := agree_ob h (hc (.h k) (by simp [cellK])); simp only [St.rd, St.wr, St.len, St.elemAt, St.cut, St.src, this, and_self]
  | im x => refine ⟨?_, rfl, rfl, rfl, rfl, rfl⟩; cases x <;> rfl
  | _ => simp only [St.rd, St.wr, St.len, St.elemAt, St.cut, St.src, and_self]
theorem agree_parts (h : agreeOn F s s1) : ∀ {ps : List (Nat × Operand)}, (∀ x ∈ partsK ps, x ∈ F) → s1.parts ps = s.parts ps
  | [], _ => rfl
  | p :: r, hp => by
    simp only [St.parts]
    rw [agree_ev h (y := p.2) fun x hx => hp x (by simp [partsK, hx]), agree_parts h (ps := r) fun x hx => hp x (by simp [partsK, hx])]
theorem agree_caps (h : agreeOn F s s1) : ∀ {ys : List Operand}, (∀ x ∈ opsK ys, x ∈ F) → capsOf s1 ys = capsOf s ys
  | [], _ => rfl
  | y :: r, hp => by
    simp only [capsOf]
    rw [agree_ev h (y := y) fun x hx => hp x (by simp [opsK, hx]), agree_caps h (ys := r) fun x hx => hp x (by simp [opsK, hx])]
theorem agree_ints (h : agreeOn F s s1) (k : IntKind) : ∀ {ys : List Operand}, (∀ x ∈ opsK ys, x ∈ F) → intsOf s1 k ys = intsOf s k ys
  | [], _ => rfl
  | y :: r, hp => by
    simp only [intsOf]
    rw [agree_ev h (y := y) fun x hx => hp x (by simp [opsK, hx]), agree_ints h k (ys := r) fun x hx => hp x (by simp [opsK, hx])]
theorem agree_bnd (h : agreeOn F s s1) {y : Option Operand} (hy : ∀ x ∈ optK y, x ∈ F) : bnd s1 y = bnd s y := by
  cases y with
  | none => rfl
  | some y => simp only [bnd]; rw [agree_ev h (y := y) fun x hx => hy x hx]
variable {P : Program} {k : Nat} {o : Oper} {p : Prop} {U : List Upd}
theorem cong_xStore {t : TypeId} {y z : Operand} (h : xStore P o s t y z = some (F, p, U)) (ha : agreeOn F s s1) : xStore P o s1 t y z = some (F, p, U) := by
  unfold xStore at h ⊢
  split at h <;> try (cases h; done)
  rename_i c ds h1 h2 h3
  split at h <;> try (cases h; done)
  rename_i g n h4
  split at h <;> try (cases h; done)
  rename_i h5
  split at h <;> try (cases h; done)
  rename_i k' o' h6
  cases h
  simp only [agree_ev ha (y := y) (by intro x hx; simp [hx]), agree_ev ha (y := z) (by intro x hx; simp [hx]), (agree_cell ha (c := c) (by intro x hx; simp [hx]) 0 0 0 0 ds 0).2.1, h1, h2, h3, h4, h5, h6]
theorem cong_xCut {t : TypeId} {y : Operand} {lo hi : Option Operand} (h : xCut P o s t y lo hi = some (F, p, U)) (ha : agreeOn F s s1) : xCut P o s1 t y lo hi = some (F, p, U) := by
  unfold xCut at h ⊢
  split at h <;> try (cases h; done)
  rename_i l u h1 h2
  split at h <;> try (cases h; done)
  · rename_i b h3
    split at h <;> try (cases h; done)
    rename_i h4
    cases h
    simp only [agree_ev ha (y := y) (by intro x hx; simp [hx]), agree_bnd ha (y := lo) (by intro x hx; simp [hx]), agree_bnd ha (y := hi) (by intro x hx; simp [hx]), h1, h2, h3, h4]
  · rename_i c hne h3
    split at h <;> try (cases h; done)
    rename_i e h4
    split at h <;> try (cases h; done)
    rename_i sz bs n h5 h6
    split at h <;> try (cases h; done)
    rename_i h7
    split at h <;> try (cases h; done)
    rename_i d h8
    cases h
    have hc := fun e' sz' j hi' => agree_cell ha (c := c) (by intro x hx; simp [hx]) 0 e' sz' j [] hi'
    simp only [agree_ev ha (y := y) (by intro x hx; simp [hx]), agree_bnd ha (y := lo) (by intro x hx; simp [hx]), agree_bnd ha (y := hi) (by intro x hx; simp [hx]), (hc e 0 0 0).2.2.1, (hc e sz (l.getD 0).toNat (u.getD n).toNat).2.2.2.2.1, h1, h2, h3, h4, h5, h6, h7, h8]
theorem cong_xLen {t : TypeId} {y : Operand} (h : xLen P o s t y = some (F, p, U)) (ha : agreeOn F s s1) : xLen P o s1 t y = some (F, p, U) := by
  unfold xLen at h ⊢
  split at h <;> try (cases h; done)
  · rename_i b h3
    split at h <;> try (cases h; done)
    rename_i h4
    cases h
    simp only [agree_ev ha (y := y) (by intro x hx; simp [hx]), h3, h4]
  · rename_i c hne h3
    split at h <;> try (cases h; done)
    rename_i e h4
    split at h <;> try (cases h; done)
    rename_i n h5
    cases h
    simp only [agree_ev ha (y := y) (by intro x hx; simp [hx]), (agree_cell ha (c := c) (by intro x hx; simp [hx]) 0 e 0 0 [] 0).2.2.1, h3, h4, h5]
theorem cong_xAppend {t : TypeId} {y z : Operand} (h : xAppend P k o s t y z = some (F, p, U)) (ha : agreeOn F s s1) : xAppend P k o s1 t y z = some (F, p, U) := by
  unfold xAppend at h ⊢
  split at h <;> try (cases h; done)
  rename_i e h1
  split at h <;> try (cases h; done)
  rename_i sz bs zs h2 h3
  split at h <;> try (cases h; done)
  rename_i h4
  split at h <;> try (cases h; done)
  rename_i c h5
  split at h <;> try (cases h; done)
  rename_i ys h6
  split at h <;> try (cases h; done)
  · rename_i r h7
    split at h <;> try (cases h; done)
    rename_i e' xs h8
    split at h <;> try (cases h; done)
    rename_i h9
    cases h
    simp only [agree_ev ha (y := y) (by intro x hx; simp [hx]), agree_ev ha (y := z) (by intro x hx; simp [hx]), (agree_cell ha (c := c) (by intro x hx; simp [hx]) 0 e sz 0 [] 0).2.2.2.2.2, agree_ob ha (k := r) (by simp), h1, h2, h3, h4, h5, h6, h7, h8, h9]
  · rename_i h7
    cases h
    simp only [agree_ev ha (y := y) (by intro x hx; simp [hx]), agree_ev ha (y := z) (by intro x hx; simp [hx]), (agree_cell ha (c := c) (by intro x hx; simp [hx]) 0 e sz 0 [] 0).2.2.2.2.2, h1, h2, h3, h4, h5, h6, h7]
theorem cong_xExt {mx : Bool} {ys : List Operand} (h : xExt o s mx ys = some (F, p, U)) (ha : agreeOn F s s1) : xExt o s1 mx ys = some (F, p, U) := by
  unfold xExt at h ⊢
  split at h <;> try (cases h; done)
  rename_i y r
  split at h <;> try (cases h; done)
  rename_i kk h1
  split at h <;> try (cases h; done)
  rename_i n l h2
  cases h
  have e1 := agree_ev ha (y := y) (by intro x hx; simp [opsK, hx])
  have e2 := agree_ints ha kk (ys := y :: r) (fun x hx => hx)
  simp only [e1, e2, h1, h2]
theorem cong_exec1 (h : exec1 P k o s = some (F, p, U)) (ha : agreeOn F s s1) (hn : s1.nt = s.nt) : exec1 P k o s1 = some (F, p, U) := by
  unfold exec1 at h ⊢
  rw [hn]
  split at h <;> try (cases h; done)
  split at h <;> try (cases h; done)
  · cases h; rename_i y _ ; simp only [agree_ev ha (y := y) (by intro x hx; simp [hx])]
  · cases h; rename_i y _ ; simp only [agree_ev ha (y := y) (by intro x hx; simp [hx])]
  · exact h
  · -- box
    rename_i t y _
    unfold xBox at h ⊢
    repeat' (split at h <;> try (cases h; done))
    cases h
    simp only [agree_ev ha (y := y) (by intro x hx; simp [hx]), *]
  · unfold xBuild at h ⊢
    repeat' (split at h <;> try (cases h; done))
    cases h
    simp only [agree_parts ha (fun x hx => hx), *]
  · unfold xLit at h ⊢
    repeat' (split at h <;> try (cases h; done))
    cases h
    simp only [agree_parts ha (fun x hx => hx), *]
  · rename_i t y _
    unfold xLoad at h ⊢
    repeat' (split at h <;> try (cases h; done))
    cases h
    rename_i c _ _ g n _ _ _ _ _ _
    simp only [agree_ev ha (y := y) (by intro x hx; simp [hx]), *, (agree_cell ha (c := c) (by intro x hx; simp [hx]) n 0 0 0 [] 0).1]
  · exact cong_xStore h ha
  · rename_i t y f _
    unfold xField at h ⊢
    repeat' (split at h <;> try (cases h; done))
    cases h
    simp only [agree_ev ha (y := y) (by intro x hx; simp [hx]), *]
  · rename_i y _
    unfold xNil at h ⊢
    repeat' (split at h <;> try (cases h; done))
    cases h
    simp only [agree_ev ha (y := y) (by intro x hx; simp [hx]), *]
  · rename_i y j _
    unfold xExtract at h ⊢
    repeat' (split at h <;> try (cases h; done))
    cases h
    simp only [agree_ev ha (y := y) (by intro x hx; simp [hx]), *]
  · rename_i c y z _
    unfold xPick at h ⊢
    split at h <;> try (cases h; done)
    cases h
    simp only [agree_ev ha (y := y) (by intro x hx; simp [hx]), agree_ev ha (y := z) (by intro x hx; simp [hx]), agree_ev ha (y := c) (by intro x hx; simp [hx]), *]
  · rename_i op t y z t' _
    unfold xBin at h ⊢
    repeat' (split at h <;> try (cases h; done))
    cases h
    simp only [agree_ev ha (y := y) (by intro x hx; simp [hx]), agree_ev ha (y := z) (by intro x hx; simp [hx]), *]
  · rename_i op t y _
    unfold xUn at h ⊢
    repeat' (split at h <;> try (cases h; done))
    all_goals
      cases h
      simp only [agree_ev ha (y := y) (by intro x hx; simp [hx]), *]
  · rename_i t u y _
    unfold xConv at h ⊢
    repeat' (split at h <;> try (cases h; done))
    cases h
    simp only [agree_ev ha (y := y) (by intro x hx; simp [hx]), *]
  · rename_i t y z _
    unfold xElem at h ⊢
    repeat' (split at h <;> try (cases h; done))
    cases h
    rename_i c _ i e _ _ _ _ sz _ _ _ _ _
    simp only [agree_ev ha (y := y) (by intro x hx; simp [hx]), agree_ev ha (y := z) (by intro x hx; simp [hx]), *, (agree_cell ha (c := c) (by intro x hx; simp [hx]) 0 e sz i.toNat [] 0).2.2.2.1]
  · rename_i t y z _
    unfold xIndexS at h ⊢
    repeat' (split at h <;> try (cases h; done))
    cases h
    simp only [agree_ev ha (y := y) (by intro x hx; simp [hx]), agree_ev ha (y := z) (by intro x hx; simp [hx]), *]
  · exact cong_xCut h ha
  · rename_i f first ys _
    split at h <;> try (cases h; done)
    unfold xFunc at h ⊢
    split at h <;> try (cases h; done)
    cases h
    simp only [agree_caps ha (fun x hx => hx), *]
  · split at h <;> try (cases h; done)
    · exact cong_xLen h ha
    · split at h <;> try (cases h; done)
      exact cong_xAppend h ha
    · exact cong_xExt h ha
    · exact cong_xExt h ha
end cong
end Go.Exe
