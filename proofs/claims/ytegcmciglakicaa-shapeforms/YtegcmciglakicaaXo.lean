/-
  Xo: what a state may forget, other numbers for its objects, a nil row as a row of one's own; loops told by states.
-/
import Derived.Test.YtegcmciglakicaaXn
namespace Go.Exe
open Go.RowKit
set_option linter.unusedVariables false
set_option linter.unusedSimpArgs false

abbrev Ren := List (Nat × Nat)
def rnCaps (r : Ren) : List (Nat × Nat) → Option (List (Nat × Nat))
  | [] => some []
  | p :: l => (match lk r p.1, rnCaps r l with | some k, some l' => some ((k, p.2) :: l') | _, _ => none)
def rnC (r : Ren) : Cell → Cell
  | .im x => .im x
  | .ref k => (match lk r k with | some k' => .ref k' | none => .dead)
  | .ptr k o => (match lk r k with | some k' => .ptr k' o | none => .dead)
  | .rp k a b o => (match lk r k with | some k' => .rp k' a b o | none => .dead)
  | .ip xs => .ip xs
  | .mp k => (match lk r k with | some k' => .mp k' | none => .dead)
  | .clo f caps => (match rnCaps r caps with | some c => .clo f c | none => .dead)
  | .vw k a b n => (match lk r k with | some k' => .vw k' a b n | none => .dead)
  | .orow e xs => .orow e xs
  | .obox t cs => .obox t cs
  | .dead => .dead
def rnCs (r : Ren) : List Cell → List Cell
  | [] => []
  | x :: l => rnC r x :: rnCs r l
def rnCss (r : Ren) : List (List Cell) → List (List Cell)
  | [] => []
  | x :: l => rnCs r x :: rnCss r l
def rnTs (r : Ren) : List (Bool × List Cell) → List (Bool × List Cell)
  | [] => []
  | x :: l => (x.1, rnCs r x.2) :: rnTs r l
def rnEs (r : Ren) : List (Value × Bool × List Cell) → List (Value × Bool × List Cell)
  | [] => []
  | x :: l => (x.1, x.2.1, rnCs r x.2.2) :: rnEs r l
def rnT (r : Ren) : TV → TV
  | .c x => .c (rnC r x)
  | .g xs => .g (rnCs r xs)
  | .t ys => .t (rnTs r ys)
def rnO (r : Ren) : Obj → Option Obj
  | .box t cs => some (.box t (rnCs r cs))
  | .row e xs => some (.row e (rnCss r xs))
  | .nrow e xs => some (.nrow e (rnCss r xs))
  | .fro x => some (.fro x)
  | .map kt es => some (.map kt (rnEs r es))
  | .itf kt es seen => some (.itf kt es seen)
def fitT (r : Ren) (s : St) : List Nat → List (Nat × TV)
  | [] => []
  | i :: l => (i, rnT r (s.tv i)) :: fitT r s l
def fitH (r : Ren) (s : St) : List (Nat × Nat) → List (Nat × Obj)
  | [] => []
  | p :: l => (match s.ob p.1 with
    | some o => (match rnO r o with | some o' => (p.2, o') :: fitH r s l | none => fitH r s l)
    | none => fitH r s l)
/-- The state with the temporaries 'keep' alone and the objects of 'r', under their new numbers. -/
def St.fit (s : St) (r : Ren) (keep : List Nat) (nx : Nat) : St := { t := fitT r s keep, h := fitH r s r, nx := nx, ex := [], nt := s.nt }
def notInB (k : Nat) : List Nat → Bool
  | [] => true
  | x :: r => !(Nat.beq k x) && notInB k r
def nodupB : List Nat → Bool
  | [] => true
  | x :: r => notInB x r && nodupB r
def allLt (n : Nat) : List Nat → Bool
  | [] => true
  | x :: r => Nat.blt x n && allLt n r
def renOk (r : Ren) (nx : Nat) : Bool := nodupB (r.map (·.1)) && nodupB (r.map (·.2)) && allLt nx (r.map (·.2))

def pinOk (r : Ren) : Nat → Bool
  | 0 => true
  | n + 1 => (match lk r n with | some j => Nat.beq j n | none => false) && pinOk r n
theorem pinOk_spec {r : Ren} : ∀ {n : Nat}, pinOk r n = true → ∀ k, k < n → lk r k = some k
  | 0, _, k, hk => absurd hk (Nat.not_lt_zero k)
  | n + 1, h, k, hk => by
    simp only [pinOk, Bool.and_eq_true] at h
    rcases Nat.lt_or_ge k n with h1 | h1
    · exact pinOk_spec h.2 k h1
    · obtain rfl : k = n := by omega
      cases hj : lk r k with
      | none => rw [hj] at h; exact absurd h.1 (by simp)
      | some j => rw [hj] at h; rw [beq_t h.1]
theorem notInB_spec {k : Nat} : ∀ {l : List Nat}, notInB k l = true → k ∉ l
  | [], _ => by simp
  | x :: r, h => by
    simp only [notInB, Bool.and_eq_true, Bool.not_eq_true'] at h
    simp only [List.mem_cons, not_or]
    exact ⟨beq_f h.1, notInB_spec h.2⟩
theorem nodupB_spec : ∀ {l : List Nat}, nodupB l = true → l.Nodup
  | [], _ => List.nodup_nil
  | x :: r, h => by
    simp only [nodupB, Bool.and_eq_true] at h
    exact List.nodup_cons.2 ⟨notInB_spec h.1, nodupB_spec h.2⟩
theorem allLt_spec {n : Nat} : ∀ {l : List Nat}, allLt n l = true → ∀ x ∈ l, x < n
  | [], _ => by simp
  | x :: r, h => by
    simp only [allLt, Bool.and_eq_true] at h
    intro y hy
    simp only [List.mem_cons] at hy
    rcases hy with rfl | hy
    · exact Nat.le_of_ble_eq_true h.1
    · exact allLt_spec h.2 y hy
theorem lk_mem : ∀ {r : Ren} {k j : Nat}, lk r k = some j → (k, j) ∈ r
  | [], k, j, h => by simp [lk] at h
  | p :: r, k, j, h => by
    simp only [lk] at h
    cases hb : Nat.beq p.1 k with
    | true => rw [hb] at h; simp only [cond_true, Option.some.injEq] at h; obtain ⟨a, b⟩ := p; have := beq_t hb; simp_all
    | false => rw [hb] at h; simp only [cond_false] at h; exact List.mem_cons_of_mem _ (lk_mem h)
theorem mem_lk : ∀ {r : Ren} {k j : Nat}, (r.map (·.1)).Nodup → (k, j) ∈ r → lk r k = some j
  | p :: r, k, j, hn, h => by
    simp only [List.map_cons, List.nodup_cons] at hn
    simp only [lk]
    simp only [List.mem_cons] at h
    rcases h with rfl | h
    · simp
    · have : p.1 ≠ k := fun e => hn.1 (List.mem_map.2 ⟨(k, j), h, e.symm⟩)
      rw [beq_ne this]
      exact mem_lk hn.2 h
def swp (r : Ren) : Ren := r.map fun p => (p.2, p.1)
theorem mem_swp {r : Ren} {k j : Nat} : (j, k) ∈ swp r ↔ (k, j) ∈ r := by
  unfold swp
  simp only [List.mem_map]
  constructor
  · rintro ⟨⟨a, b⟩, h, e⟩; simp only [Prod.mk.injEq] at e; obtain ⟨rfl, rfl⟩ := e; exact h
  · intro h; exact ⟨(k, j), h, rfl⟩
/-- The placing under the new numbers. -/
def Where.ren (L : Where) (r : Ren) : Where := ⟨fun j => (lk (swp r) j).bind L.blk, fun j => match lk (swp r) j with | some k => L.hv k | none => undef, fun j => match lk (swp r) j with | some k => L.sub k | none => []⟩
section
variable {P : Program} {ok ok' : Nat → Prop} {w : World} {U U' : Nat → Prop} {L L' : Where} {r : Ren}
def RenFits (r : Ren) (U' : Nat → Prop) (L L' : Where) : Prop := ∀ k k', lk r k = some k' → U' k' ∧ L'.blk k' = L.blk k ∧ L'.hv k' = L.hv k ∧ L'.sub k' = L.sub k
theorem rnCaps_sound (hr : RenFits r U' L L') : ∀ {caps caps' : List (Nat × Nat)} {vs : List Value}, rnCaps r caps = some caps' → Al (fun u (p : Nat × Nat) => U p.1 ∧ ∃ b, L.blk p.1 = some b ∧ u = .pointer (some ⟨b, p.2, none⟩)) vs caps → Al (fun u (p : Nat × Nat) => U' p.1 ∧ ∃ b, L'.blk p.1 = some b ∧ u = .pointer (some ⟨b, p.2, none⟩)) vs caps'
  | [], caps', vs, h, ha => by cases h; obtain rfl := ha.nil_right; exact Al.nil
  | p :: l, caps', vs, h, ha => by
    simp only [rnCaps] at h
    split at h <;> try (cases h; done)
    rename_i k l' h1 h2
    cases h
    obtain ⟨v, vr, rfl, ⟨k1, b, k2, k3⟩, k4⟩ := ha.cons_right
    obtain ⟨j1, j2, _⟩ := hr _ _ h1
    exact Al.cons ⟨j1, b, by rw [j2]; exact k2, k3⟩ (rnCaps_sound hr h2 k4)
theorem RepC.ren {v : Value} {c : Cell} (h : RepC P ok w U L v c) (hr : RenFits r U' L L') (hok : ∀ b, ok b → b < w.heap.size → ok' b) : RepC P ok' w U' L' v (rnC r c) := by
  cases c with
  | im x => exact RepA.mono h hok
  | ref k =>
    simp only [rnC]; split
    · rename_i k' hk; obtain ⟨h1, h2, h3, _⟩ := hr _ _ hk; exact ⟨h1, by rw [h3]; exact h.2.1, h.2.2⟩
    · trivial
  | ptr k o =>
    simp only [rnC]; split
    · rename_i k' hk; obtain ⟨h1, h2, h3⟩ := hr _ _ hk; obtain ⟨_, b, h4, h5⟩ := h; exact ⟨h1, b, by rw [h2]; exact h4, h5⟩
    · trivial
  | rp k a b o =>
    simp only [rnC]; split
    · rename_i k' hk; obtain ⟨h1, h2, h3⟩ := hr _ _ hk; obtain ⟨_, b, h4, h5⟩ := h; exact ⟨h1, b, by rw [h2]; exact h4, h5⟩
    · trivial
  | ip xs => exact imOnlyC_spec (c := .ip xs) rfl h hok
  | mp k =>
    simp only [rnC]; split
    · rename_i k' hk; obtain ⟨h1, h2, h3, _⟩ := hr _ _ hk; exact ⟨h1, by rw [h3]; exact h.2.1, h.2.2⟩
    · trivial
  | clo f caps =>
    simp only [rnC]; split
    · rename_i c hc
      obtain ⟨vs, h1, h2⟩ := h
      exact ⟨vs, h1, rnCaps_sound hr hc h2⟩
    · trivial
  | vw k a b n =>
    simp only [rnC]; split
    · rename_i k' hk; obtain ⟨h1, h2, h3⟩ := hr _ _ hk
      obtain ⟨_, a, c, h4, h5, h6, h7, h8⟩ := h
      exact ⟨h1, a, c, h4, h5, h6, h7, fun h0 => by obtain ⟨b, h9, h10⟩ := h8 h0; exact ⟨b, by rw [h2]; exact h9, h10⟩⟩
    · trivial
  | orow e xs => exact h.elim
  | obox t cs => exact h.elim
  | dead => trivial
theorem RepN.ren {v : Value} {c : Cell} (h : RepN P ok w U L v c) (hr : RenFits r U' L L') (hok : ∀ b, ok b → b < w.heap.size → ok' b) : RepN P ok' w U' L' v (rnC r c) := by
  have plain : ∀ {c : Cell}, RepC P ok w U L v c → RepN P ok' w U' L' v (rnC r c) := fun h => RepN.plain (RepC.ren h hr hok)
  cases c with
  | orow e xs =>
    obtain ⟨uss, sz, bs, h1, h2, h3, h4, h6, h7, h8⟩ := h
    exact ⟨uss, sz, bs, h1, h2, h3, h4, h6, h7.imp fun _ _ h => h.imp fun _ _ h => h.mono hok, h8⟩
  | obox t cs =>
    obtain ⟨b, vs, h1, h2, h3, h4⟩ := h
    exact ⟨b, vs, h1, h2, h3.imp fun _ _ h => h.mono hok, h4⟩
  | im x => exact plain (c := .im x) h
  | ref k => exact plain (c := .ref k) h
  | ptr k o => exact plain (c := .ptr k o) h
  | rp k a b o => exact plain (c := .rp k a b o) h
  | ip xs => exact plain (c := .ip xs) h
  | mp k => exact plain (c := .mp k) h
  | clo f caps => exact plain (c := .clo f caps) h
  | vw k a b n => exact plain (c := .vw k a b n) h
  | dead => trivial
theorem fpV_rn (v : Value) (c : Cell) : fpV v (rnC r c) = fpV v c := by
  cases c <;> simp only [rnC] <;> try rfl
  all_goals (split <;> rfl)
theorem fpL_rn : ∀ (vs : List Value) (cs : List Cell), fpL vs (rnCs r cs) = fpL vs cs
  | [], _ => rfl
  | _ :: _, [] => rfl
  | v :: vs, c :: cs => by
    have := fpL_rn vs cs
    simp only [fpL, rnCs, List.zipWith_cons_cons, List.flatten_cons, fpV_rn] at this ⊢
    rw [this]
theorem fpR_rn : ∀ (vs : List (List Value)) (cs : List (List Cell)), fpR vs (rnCss r cs) = fpR vs cs
  | [], _ => rfl
  | _ :: _, [] => rfl
  | v :: vs, c :: cs => by
    have := fpR_rn vs cs
    simp only [fpR, rnCss, List.zipWith_cons_cons, List.flatten_cons, fpL_rn] at this ⊢
    rw [this]
theorem fpM_rn (v : Value) (y : Bool × List Cell) : fpM v (y.1, rnCs r y.2) = fpM v y := by
  unfold fpM
  split
  · rfl
  · cases y.2 with
    | nil => rfl
    | cons c l => exact fpV_rn v c
theorem fpE_rn : ∀ (ms : List MapEntry) (es : List (Value × Bool × List Cell)), fpE ms (rnEs r es) = fpE ms es
  | [], _ => rfl
  | _ :: _, [] => rfl
  | v :: vs, c :: cs => by
    have := fpE_rn vs cs
    have h2 := fpM_rn (r := r) v.val c.2
    simp only [fpE, rnEs, List.zipWith_cons_cons, List.flatten_cons] at this h2 ⊢
    rw [this, h2]
theorem Al.rnCs (hr : RenFits r U' L L') (hok : ∀ b, ok b → b < w.heap.size → ok' b) : ∀ {vs : List Value} {cs : List Cell}, Al (RepC P ok w U L) vs cs → Al (RepC P ok' w U' L') vs (rnCs r cs)
  | vs, [], h => by obtain rfl := h.nil_right; exact Al.nil
  | vs, c :: l, h => by
    obtain ⟨v, vr, rfl, k1, k2⟩ := h.cons_right
    exact Al.cons (k1.ren hr hok) (Al.rnCs hr hok k2)
theorem Al.rnCss (hr : RenFits r U' L L') (hok : ∀ b, ok b → b < w.heap.size → ok' b) : ∀ {vs : List (List Value)} {cs : List (List Cell)}, Al (Al (RepC P ok w U L)) vs cs → Al (Al (RepC P ok' w U' L')) vs (rnCss r cs)
  | vs, [], h => by obtain rfl := h.nil_right; exact Al.nil
  | vs, c :: l, h => by
    obtain ⟨v, vr, rfl, k1, k2⟩ := h.cons_right
    exact Al.cons (k1.rnCs hr hok) (Al.rnCss hr hok k2)
theorem rnCs_len : ∀ l : List Cell, (rnCs r l).length = l.length
  | [] => rfl
  | x :: l => by simp [rnCs, rnCs_len l]
theorem rnCss_len : ∀ l : List (List Cell), (rnCss r l).length = l.length
  | [] => rfl
  | x :: l => by simp [rnCss, rnCss_len l]
theorem RepT1.ren {v : Value} {y : Bool × List Cell} (h : RepT1 P ok w U L v y) (hr : RenFits r U' L L') (hok : ∀ b, ok b → b < w.heap.size → ok' b) : RepT1 P ok' w U' L' v (y.1, Go.Exe.rnCs r y.2) := by
  unfold RepT1 at h ⊢
  split at h
  · rename_i hc
    simp only [hc, if_true]
    obtain ⟨vs, h1, h2⟩ := h
    exact ⟨vs, h1, h2.rnCs hr hok⟩
  · rename_i hc
    rw [if_neg hc]
    obtain ⟨c, h1, h2⟩ := h
    refine ⟨rnC r c, ?_, h2.ren hr hok⟩
    simp [h1, Go.Exe.rnCs]
theorem Al.rnTs (hr : RenFits r U' L L') (hok : ∀ b, ok b → b < w.heap.size → ok' b) : ∀ {vs : List Value} {cs : List (Bool × List Cell)}, Al (RepT1 P ok w U L) vs cs → Al (RepT1 P ok' w U' L') vs (rnTs r cs)
  | vs, [], h => by obtain rfl := h.nil_right; exact Al.nil
  | vs, c :: l, h => by
    obtain ⟨v, vr, rfl, k1, k2⟩ := h.cons_right
    exact Al.cons (k1.ren hr hok) (Al.rnTs hr hok k2)
theorem RepM.ren {v : Value} {y : Bool × List Cell} (h : RepM P ok w U L v y) (hr : RenFits r U' L L') (hok : ∀ b, ok b → b < w.heap.size → ok' b) : RepM P ok' w U' L' v (y.1, Go.Exe.rnCs r y.2) := by
  unfold RepM at h ⊢
  split at h
  · rename_i hc
    simp only [hc, if_true]
    obtain ⟨vs, h1, h2⟩ := h
    exact ⟨vs, h1, h2.rnCs hr hok⟩
  · rename_i hc
    rw [if_neg hc]
    obtain ⟨c, h1, h2⟩ := h
    refine ⟨rnC r c, ?_, h2.ren hr hok⟩
    simp [h1, Go.Exe.rnCs]
theorem rnEs_keys : ∀ es : List (Value × Bool × List Cell), (rnEs r es).map (·.1) = es.map (·.1)
  | [] => rfl
  | x :: l => by simp [rnEs, rnEs_keys l]
theorem Al.rnNs (hr : RenFits r U' L L') (hok : ∀ b, ok b → b < w.heap.size → ok' b) : ∀ {vs : List Value} {cs : List Cell}, Al (RepN P ok w U L) vs cs → Al (RepN P ok' w U' L') vs (Go.Exe.rnCs r cs)
  | vs, [], h => by obtain rfl := h.nil_right; exact Al.nil
  | vs, c :: l, h => by
    obtain ⟨v, vr, rfl, k1, k2⟩ := h.cons_right
    exact Al.cons (k1.ren hr hok) (Al.rnNs hr hok k2)
theorem Al.rnNss (hr : RenFits r U' L L') (hok : ∀ b, ok b → b < w.heap.size → ok' b) : ∀ {vs : List (List Value)} {cs : List (List Cell)}, Al (Al (RepN P ok w U L)) vs cs → Al (Al (RepN P ok' w U' L')) vs (Go.Exe.rnCss r cs)
  | vs, [], h => by obtain rfl := h.nil_right; exact Al.nil
  | vs, c :: l, h => by
    obtain ⟨v, vr, rfl, k1, k2⟩ := h.cons_right
    exact Al.cons (k1.rnNs hr hok) (Al.rnNss hr hok k2)
theorem Al.rnEs (hr : RenFits r U' L L') (hok : ∀ b, ok b → b < w.heap.size → ok' b) : ∀ {ms : List MapEntry} {es : List (Value × Bool × List Cell)}, Al (fun (m : MapEntry) (e : Value × Bool × List Cell) => m.key = e.1 ∧ RepM P ok w U L m.val e.2) ms es → Al (fun (m : MapEntry) (e : Value × Bool × List Cell) => m.key = e.1 ∧ RepM P ok' w U' L' m.val e.2) ms (rnEs r es)
  | vs, [], h => by obtain rfl := h.nil_right; exact Al.nil
  | vs, c :: l, h => by
    obtain ⟨v, vr, rfl, k1, k2⟩ := h.cons_right
    exact Al.cons ⟨k1.1, k1.2.ren hr hok⟩ (Al.rnEs hr hok k2)
theorem RepT.ren {v : Value} {x : TV} (h : RepT P ok w U L v x) (hr : RenFits r U' L L') (hok : ∀ b, ok b → b < w.heap.size → ok' b) : RepT P ok' w U' L' v (rnT r x) := by
  cases x with
  | c x => exact RepC.ren h hr hok
  | g xs => obtain ⟨vs, h1, h2⟩ := h; exact ⟨vs, h1, h2.rnCs hr hok⟩
  | t ys => obtain ⟨vs, h1, h2⟩ := h; exact ⟨vs, h1, h2.rnTs hr hok⟩
theorem RepO.ren {k k' : Nat} {o o' : Obj} (h : RepO P ok w U L k o) (hk : lk r k = some k') (ho : rnO r o = some o') (hr : RenFits r U' L L') (hok : ∀ b, ok b → b < w.heap.size → ok' b) : RepO P ok' w U' L' k' o' := by
  obtain ⟨j1, j2, j3, j4⟩ := hr _ _ hk
  cases o with
  | box t cs =>
    cases ho
    obtain ⟨b, vs, h1, h2, h3, h4⟩ := h
    exact ⟨b, vs, by rw [j2]; exact h1, h2, h3.rnCs hr hok, h4⟩
  | row e xs =>
    cases ho
    obtain ⟨uss, sz, bs, h1, h2, h3, h4, h5, h6, h7, h8⟩ := h
    exact ⟨uss, sz, bs, h1, h2, by rw [rnCss_len]; exact h3, by rw [j3, rnCss_len]; exact h4, by rw [j3, j2]; exact h5, h6, h7.rnCss hr hok, h8⟩
  | fro x =>
    cases ho
    have h : RepA P ok w (L.hv k) x := h
    show RepA P ok' w (L'.hv k') x
    rw [j3]; exact h.mono hok
  | nrow e xs =>
    cases ho
    obtain ⟨uss, sz, bs, h1, h2, h3, h4, h5, h6, h7, h8, h9⟩ := h
    exact ⟨uss, sz, bs, h1, h2, by rw [rnCss_len]; exact h3, by rw [j3, rnCss_len]; exact h4, by rw [j3, j2]; exact h5, h6, h7.rnNss hr hok, h8, by rw [fpR_rn]; exact ⟨h9.1, fun x hx => by rw [j2, j4]; exact h9.2 x hx⟩⟩
  | map kt es =>
    cases ho
    obtain ⟨b, ms, clk, ⟨h1, h1a, h1b⟩, h2, h3, h4, h5, h6⟩ := h
    exact ⟨b, ms, clk, ⟨by rw [j2]; exact h1, by rw [j3]; exact h1a, by rw [rnEs_keys]; exact h1b⟩, h2, h3.rnEs hr hok, h4, h5, by rw [fpE_rn]; exact ⟨h6.1, fun x hx => by rw [j2, j4]; exact h6.2 x hx⟩⟩
  | itf kt es seen =>
    cases ho
    obtain ⟨b, mo, since, sn, last, h1, h2, h3, h4⟩ := h
    exact ⟨b, mo, since, sn, last, by rw [j2]; exact h1, h2, h3.mono hok, h4⟩
theorem rnO_owns {o o' : Obj} (h : rnO r o = some o') : o'.owns = o.owns := by
  cases o <;> simp only [rnO] at h
  all_goals (cases h; rfl)
end
theorem lk_fitT (r : Ren) (s : St) (i : Nat) : ∀ keep : List Nat, lk (fitT r s keep) i = some (rnT r (s.tv i)) ∨ lk (fitT r s keep) i = none
  | [] => .inr rfl
  | j :: l => by
    simp only [fitT, lk]
    cases hb : Nat.beq j i with
    | true => obtain rfl := beq_t hb; exact .inl rfl
    | false => exact lk_fitT r s i l
theorem lk_fitH (r : Ren) (s : St) {j : Nat} {o' : Obj} : ∀ {l : List (Nat × Nat)}, lk (fitH r s l) j = some o' → ∃ k o, (k, j) ∈ l ∧ s.ob k = some o ∧ rnO r o = some o'
  | [], h => by simp [fitH, lk] at h
  | p :: l, h => by
    simp only [fitH] at h
    have tail : lk (fitH r s l) j = some o' → ∃ k o, (k, j) ∈ p :: l ∧ s.ob k = some o ∧ rnO r o = some o' := fun h => by
      obtain ⟨k, o, h1, h2⟩ := lk_fitH r s h; exact ⟨k, o, List.mem_cons_of_mem _ h1, h2⟩
    split at h
    · rename_i o ho
      split at h
      · rename_i o1 ho1
        simp only [lk] at h
        cases hb : Nat.beq p.2 j with
        | true =>
          rw [hb] at h
          simp only [cond_true, Option.some.injEq] at h
          subst h
          obtain rfl := beq_t hb
          exact ⟨p.1, o, by simp, ho, ho1⟩
        | false => rw [hb] at h; exact tail h
      · exact tail h
    · exact tail h
theorem S.fit {C : Ctx} {s : St} {a : Act} {w : World} (h : S C s a w) {r : Ren} {keep : List Nat} {nx : Nat} (hr : renOk r nx = true) (hp : pinOk r C.np = true) : S C (s.fit r keep nx) a w := by
  obtain ⟨L, h⟩ := h
  simp only [renOk, Bool.and_eq_true] at hr
  have n1 := nodupB_spec hr.1.1
  have n2 := nodupB_spec hr.1.2
  have n3 := allLt_spec hr.2
  have n2' : ((swp r).map (·.1)).Nodup := by simpa [swp, List.map_map, Function.comp_def] using n2
  have hsw : ∀ {k j : Nat}, (k, j) ∈ r → lk (swp r) j = some k := fun h => mem_lk n2' (mem_swp.2 h)
  have hfits : RenFits r (s.fit r keep nx).used L (L.ren r) := by
    intro k j hk
    have hm := lk_mem hk
    have h2 := hsw hm
    refine ⟨.inl (n3 j (List.mem_map.2 ⟨_, hm, rfl⟩)), ?_, ?_, ?_⟩
    · simp [Where.ren, h2]
    · simp [Where.ren, h2]
    · simp [Where.ren, h2]
  have hob : ∀ j o', (s.fit r keep nx).ob j = some o' → ∃ k o, (k, j) ∈ r ∧ s.ob k = some o ∧ rnO r o = some o' := fun j o' h => lk_fitH r s h
  have hblk : ∀ {k j : Nat} (b : Nat), (k, j) ∈ r → ((L.ren r).has j b ↔ L.has k b) := fun b h => by
    have := hfits _ _ (mem_lk n1 h)
    unfold Where.has
    rw [this.2.1, this.2.2.2]
  have hok : ∀ b, okOf C s L b → b < w.heap.size → okOf C (s.fit r keep nx) (L.ren r) b := fun b hb _ => ⟨hb.1, fun j o' hj ho => by
    obtain ⟨k, o, h1, h2, h3⟩ := hob j o' hj
    rw [hblk b h1]
    exact hb.2 k o h2 (by rw [← rnO_owns h3]; exact ho)⟩
  refine ⟨L.ren r, h.os, h.tape, h.output, h.size, h.kept, h.nt, fun i => ?_, fun j o' hj => ?_, fun j j' o1 o2 b hj hj' ho ho' hb hb' => ?_, fun j o1 b hj ho hb => ?_, h.defers, fun k hk => ⟨(hfits k k (pinOk_spec hp k hk)).1, by rw [(hfits k k (pinOk_spec hp k hk)).2.1, (hfits k k (pinOk_spec hp k hk)).2.2.1]; exact (h.pin k hk).2⟩⟩
  · show RepT _ _ _ _ _ _ ((lk (fitT r s keep) i).getD (.c .dead))
    rcases lk_fitT r s i keep with he | he
    · rw [he]; exact (h.tm i).ren hfits hok
    · rw [he]; trivial
  · obtain ⟨k, o, h1, h2, h3⟩ := hob j o' hj
    exact ⟨.inl (n3 j (List.mem_map.2 ⟨_, h1, rfl⟩)), (h.ob k o h2).2.ren (mem_lk n1 h1) h3 hfits hok⟩
  · obtain ⟨k, o, h1, h2, h3⟩ := hob j o1 hj
    obtain ⟨k', o', h1', h2', h3'⟩ := hob j' o2 hj'
    rw [hblk b h1] at hb
    rw [hblk b h1'] at hb'
    have : k = k' := h.inj k k' o o' b h2 h2' (by rw [← rnO_owns h3]; exact ho) (by rw [← rnO_owns h3']; exact ho') hb hb'
    subst this
    have e1 := mem_lk n1 h1
    have e2 := mem_lk n1 h1'
    rw [e1] at e2
    exact Option.some.inj e2
  · obtain ⟨k, o, h1, h2, h3⟩ := hob j o1 hj
    rw [hblk b h1] at hb
    exact h.own k o b h2 (by rw [← rnO_owns h3]; exact ho) hb
/-- A temporary that holds a nil slice, told as an empty row of the run's own. -/
def St.adopt (s : St) (i k : Nat) (e : TypeId) : St := { s with t := ins i (.c (.ref k)) s.t, h := ins k (.row e []) s.h, nx := k + 1 }
theorem S.adopt {C : Ctx} {s : St} {a : Act} {w : World} (h : S C s a w) {i k e sz bs : Nat} (hk : Nat.ble s.nx k = true) (hex : s.ex = []) (hi : s.tv i = .c (.im (.flat (.slice none 0 0)))) (he : EInfo C.P e = some (sz, bs)) (hs : Nat.blt 0 sz = true) : S C (s.adopt i k e) a w := by
  obtain ⟨L, h⟩ := h
  have hs := Nat.le_of_ble_eq_true hs
  have hk' := Nat.le_of_ble_eq_true hk
  have hku : ¬ s.used k := by rintro (h1 | h1); · omega
                              · rw [hex] at h1; simp at h1
  have h1 : Sim C (s.new k (.row e [])) a w (L.set k none (.slice none 0 0)) := by
    refine h.new k hku _ _ rfl rfl ⟨rfl, Nat.le_refl _⟩ (Nat.le_refl _) (fun _ _ => rfl) none (by simp) ?_
    refine ⟨[], sz, bs, he, hs, by simp, ?_, ?_, by simp, Al.nil, by simp⟩
    · simp only [Where.set]; exact World.ownsRow_nil w 0 e sz
    · simp [Where.set, Value.ownBlock]
  have huU : ∀ j, (s.new k (.row e [])).used j → (s.adopt i k e).used j := by
    intro j hj
    rcases (s.used_new k _ j).1 hj with rfl | hj
    · exact .inl (Nat.lt_succ_self _)
    · rcases hj with hj | hj
      · exact .inl (Nat.lt_succ_of_le (Nat.le_trans (Nat.le_of_lt hj) hk'))
      · rw [hex] at hj; simp at hj
  refine ⟨L.set k none (.slice none 0 0), h1.os, h1.tape, h1.output, h1.size, h1.kept, h1.nt, fun j => ?_, ?_, h1.inj, h1.own, h1.defers, fun j hj => ⟨huU j (h1.pin j hj).1, (h1.pin j hj).2⟩⟩
  · have hu : ∀ j, (s.new k (.row e [])).used j → (s.adopt i k e).used j := by
      intro j hj
      rcases (s.used_new k _ j).1 hj with rfl | hj
      · exact .inl (Nat.lt_succ_self _)
      · rcases hj with hj | hj
        · exact .inl (Nat.lt_succ_of_le (Nat.le_trans (Nat.le_of_lt hj) hk'))
        · rw [hex] at hj; simp at hj
    show RepT _ _ _ _ _ _ ((lk (ins i (.c (.ref k)) s.t) j).getD (.c .dead))
    rw [lk_ins]
    split
    · rename_i e; subst e
      have h2 := h1.tm i
      rw [show (s.new k (.row _ [])).tv i = s.tv i from rfl, hi] at h2
      have h2 : RepA C.P _ w (a.tmps.getD i undef) (.flat (.slice none 0 0)) := h2
      refine ⟨hu k ((s.used_new k _ k).2 (.inl rfl)), ?_⟩
      cases hv : a.tmps.getD i undef with
      | slice x n c => rw [hv] at h2; cases h2; simp [Where.set]
      | _ => rw [hv] at h2; cases h2
    · exact (h1.tm j).move (ok' := okOf C (s.adopt i k e) _) (fun b hb _ => ⟨hb, rfl⟩) hu (Where.upto_refl _ _)
  · intro j o hj
    obtain ⟨h2, h3⟩ := h1.ob j o hj
    have hu : ∀ j, (s.new k (.row e [])).used j → (s.adopt i k e).used j := by
      intro j hj
      rcases (s.used_new k _ j).1 hj with rfl | hj
      · exact .inl (Nat.lt_succ_self _)
      · rcases hj with hj | hj
        · exact .inl (Nat.lt_succ_of_le (Nat.le_trans (Nat.le_of_lt hj) hk'))
        · rw [hex] at hj; simp at hj
    exact ⟨hu j h2, h3.move (ok' := okOf C (s.adopt i k e) _) (fun b hb _ => ⟨hb, rfl⟩) hu h2 (Where.upto_refl _ _) rfl (fun _ _ _ => rfl)⟩
section
variable {C : Ctx} {s : St} {Q : Exit → St → Prop}
theorem W.fit {c : Code} (r : Ren) (keep : List Nat) (nx : Nat) (hr : renOk r nx = true) (hp : pinOk r C.np = true) (h : W C c (s.fit r keep nx) Q) : W C c s Q := fun a w hs => h a w (hs.fit hr hp)
theorem W.adopt {c : Code} (i k e : Nat) {sz bs : Nat} (hk : Nat.ble s.nx k = true) (hex : s.ex = []) (hi : s.tv i = .c (.im (.flat (.slice none 0 0)))) (he : EInfo C.P e = some (sz, bs)) (hs : Nat.blt 0 sz = true) (h : W C c (s.adopt i k e) Q) : W C c s Q := fun a w hS => h a w (hS.adopt hk hex hi he hs)
/-- A state that may be told as another. -/
def Fits (C : Ctx) (s s' : St) : Prop := ∀ a w, S C s a w → S C s' a w
theorem Fits.rfl {C : Ctx} {s : St} : Fits C s s := fun _ _ h => h
theorem Fits.fit {s' : St} (r : Ren) (keep : List Nat) (nx : Nat) (hr : renOk r nx = true) (hp : pinOk r C.np = true) (h : Fits C (s.fit r keep nx) s') : Fits C s s' := fun a w hs => h a w (hs.fit hr hp)
theorem Fits.adopt {s' : St} (i k e : Nat) {sz bs : Nat} (hk : Nat.ble s.nx k = true) (hex : s.ex = []) (hi : s.tv i = .c (.im (.flat (.slice none 0 0)))) (he : EInfo C.P e = some (sz, bs)) (hs : Nat.blt 0 sz = true) (h : Fits C (s.adopt i k e) s') : Fits C s s' := fun a w hS => h a w (hS.adopt hk hex hi he hs)
theorem W.condT {c : Operand} {x y : Code} (hc : s.ev c = .c (.im (.flat (.bool true)))) (h : W C x s Q) : W C (.cond c x y) s Q := W.cond hc (fun _ => h) (fun e => by cases e)
theorem W.condF {c : Operand} {x y : Code} (hc : s.ev c = .c (.im (.flat (.bool false)))) (h : W C y s Q) : W C (.cond c x y) s Q := W.cond hc (fun e => by cases e) (fun _ => h)
theorem W.lenIm {c : Code} (i : Nat) {e : TypeId} {xs : List (List AV)} (hi : s.tv i = .c (.im (.sl e xs))) (h : xs.length ≤ maxLen → W C c s Q) : W C c s Q := fun a w hs => by
  refine h ?_ a w hs
  obtain ⟨L, hs⟩ := hs
  have h1 := hs.tm i
  rw [hi] at h1
  have h1 : RepA C.P _ w (a.tmps.getD i undef) (.sl e xs) := h1
  obtain ⟨ad, n, c, _, hl, hc, hm, _⟩ := h1.openSl
  omega
theorem W.fits {c : Code} {s' : St} (h : Fits C s s') (k : W C c s' Q) : W C c s Q := fun a w hs => k a w (h a w hs)
theorem W.cons {c : Code} {Q' : Exit → St → Prop} (h : W C c s Q) (k : ∀ e s, Q e s → ∃ s', Fits C s s' ∧ Q' e s') : W C c s Q' := fun a w hs => wp_mono (h a w hs) fun e a' w' ⟨s1, h1, h2⟩ => by
  obtain ⟨s', h3, h4⟩ := k e s1 h2
  exact ⟨s', h3 _ _ h1, h4⟩
/-- A round's end: the loop goes on from another state of its kind. -/
structure Again {α : Type} (C : Ctx) (T : α → St) (Inv : α → Prop) (μ : α → Nat) (x : α) (K : St → Prop) : Prop where
  go : ∀ s' y, Inv y → μ y < μ x → Fits C s' (T y) → K s'
theorem Again.to {α : Type} {C : Ctx} {T : α → St} {Inv : α → Prop} {μ : α → Nat} {x : α} {K : St → Prop} (h : Again C T Inv μ x K) {s' : St} (y : α) (h1 : Inv y) (h2 : μ y < μ x) (h3 : Fits C s' (T y)) : K s' := h.go s' y h1 h2 h3
/-- A loop, told by states: at each head the state is 'T x' for an x that the loop's law allows; a number goes down. -/
theorem W.loopF {α : Type} {c : Code} (T : α → St) (Inv : α → Prop) (μ : α → Nat) (x0 : α) (hs : Fits C s (T x0)) (h0 : Inv x0)
    (round : ∀ x, Inv x → ∀ K : St → Prop, Again C T Inv μ x K → W C c (T x) (thenK K Q)) : W C (.loop c) s Q := by
  refine W.fits hs (W.loop (fun n s => ∃ x, Inv x ∧ n = μ x ∧ s = T x) (n := μ x0) ⟨x0, h0, rfl, rfl⟩ ?_)
  rintro n s ⟨x, hx, rfl, rfl⟩
  refine W.cons (round x hx (fun s' => ∃ y, Inv y ∧ μ y < μ x ∧ Fits C s' (T y)) ⟨fun s' y h1 h2 h3 => ⟨y, h1, h2, h3⟩⟩) ?_
  intro e s1 h
  cases e with
  | normal =>
    obtain ⟨y, h1, h2, h3⟩ := h
    exact ⟨T y, h3, μ y, h2, y, h1, rfl, rfl⟩
  | _ => exact ⟨s1, Fits.rfl, h⟩
end
theorem thenK_e (K : St → Prop) (Q : Exit → St → Prop) (i : Nat) (s : St) : thenK K Q (.exit i) s = Q (.exit i) s := rfl
theorem thenK_r (K : St → Prop) (Q : Exit → St → Prop) (s : St) : thenK K Q .ret s = Q .ret s := rfl
theorem inB_n (i : Nat) (Q : Exit → St → Prop) (s : St) : inB i Q .normal s = Q .normal s := rfl
theorem inB_r (i : Nat) (Q : Exit → St → Prop) (s : St) : inB i Q .ret s = Q .ret s := rfl
theorem inB_e (i j : Nat) (Q : Exit → St → Prop) (s : St) : inB i Q (.exit j) s = bif decide (j = i) then Q .normal s else Q (.exit j) s := by
  simp only [inB]; by_cases h : j = i <;> simp [h]
attribute [go_sem] thenK_e thenK_r inB_n inB_r inB_e
theorem w64 {n : Int} (h1 : -9223372036854775808 ≤ n) (h2 : n ≤ 9223372036854775807) : IntKind.i64.wrap n = n := by
  rw [IntKind.wrap_i64]; omega
theorem w64s (i : Nat) (h : i < 9223372036854775807) : IntKind.i64.wrap ((i : Int) + 1) = ((i + 1 : Nat) : Int) := by rw [w64 (by omega) (by omega)]; simp
theorem drop_at {α : Type} {l : List α} {i : Nat} (h : i < l.length) : ∃ x, l[i]? = some x ∧ x ∈ l ∧ l.drop i = x :: l.drop (i + 1) :=
  ⟨l[i], List.getElem?_eq_getElem h, List.getElem_mem h, List.drop_eq_getElem_cons h⟩
theorem maxLen_is : maxLen = 9223372036854775807 := by decide
/-- The reckoning leaves what comes after a step alone till the step is done. -/
@[congr] theorem Run.cg {C : Ctx} {ops : Array Oper} {n0 i : Nat} {l : List Oper} {s s' : St} {K : St → Prop} (h : s = s') : Run C ops n0 i l s K = Run C ops n0 i l s' K := by rw [h]
@[congr] theorem RunD.cg {C : Ctx} {ops : Array Oper} {n0 i : Nat} {l : List Oper} {s s' : St} {tr tr' : KTrace} {K : St → KTrace → Prop} (h : s = s') (h2 : tr = tr') : RunD C ops n0 i l s tr K = RunD C ops n0 i l s' tr' K := by rw [h, h2]
@[congr] theorem AStep.cg {C : Ctx} {ops : Array Oper} {k k' : Nat} {o : Oper} {s s' : St} {K : List Key → List Upd → Prop} (h : s = s') (h2 : k = k') : AStep C ops k o s K = AStep C ops k' o s' K := by rw [h, h2]
@[congr] theorem AOp.cg {C : Ctx} {k k' : Nat} {o : Oper} {s s' : St} {K : List Key → List Upd → Prop} (h : s = s') (h2 : k = k') : AOp C k o s K = AOp C k' o s' K := by rw [h, h2]
@[congr] theorem AX.cg {C : Ctx} {k k' : Nat} {o : Oper} {s s' : St} {K : List Key → List Upd → Prop} (h : s = s') (h2 : k = k') : AX C k o s K = AX C k' o s' K := by rw [h, h2]
attribute [go_sem] eq_self List.take_succ_cons List.take_zero List.drop_succ_cons List.drop_zero List.headD_cons Option.map_some Option.map_none Option.bind_some Option.bind_none List.length_map List.length_append Int.toNat_natCast List.getElem?_cons_zero List.getElem?_cons_succ List.append_nil List.nil_append List.cons_append Int.toNat_zero ft fl opK cellK
attribute [go_sem] rnCaps rnC rnCs rnCss rnTs rnEs rnT rnO fitT fitH St.fit St.adopt notInB nodupB allLt renOk ins List.map_cons List.map_nil
end Go.Exe
