/-
  CriticalShifts: at every story, every span of its first trace and every number the law answers true: the path does not depend on the order of the spans, nor on adding the number to all offsets.
-/
import Derived.Test.YtaaflhmfhnfjhaaGreatM10
import Derived.Test.YtaaflhmfhnfjhaaGreatM11
namespace Go.Proofs.YtaaflhmfhnfjhaaGreat
open Go.RowKit Go.Exe
set_option linter.unusedVariables false
set_option linter.unusedSimpArgs false
set_option maxHeartbeats 8000000
set_option maxRecDepth 100000
/-! ### CriticalShifts -/
theorem pthM_same {l L : List Spn} {tr : Int} (h : Trn l L tr) {v w : List Of} (hb : ∀ x y, x ∈ evsL L → y ∈ evsL L → bfM L v x y = bfM L w x y) (root : Int) : pthM L v root = pthM L w root := by
  unfold pthM
  cases hs : spId L root with
  | none => rfl
  | some s =>
    have h1 := (spId_mem hs).1
    simp only
    rw [wkF_congr (E := fun x => x ∈ evsL L) (S := fun s => s ∈ L) hb (fun s hs => rfl) (fun s hs c hc => by
      have h1 := (List.mem_filter.1 hc).1
      exact ⟨h1, evs_mem h1 _, evs_mem h1 _⟩) 25 s _ _ h1 (evs_mem h1 _) (evs_mem h1 _)]
abbrev off4 (a b c d : Int) : List Of := [(1, a), (2, b), (3, c), (4, d)]
theorem story_chk4 {s : Sto} {t : Tre} (ht : turnT s = some t) (u : Nat) {a b c d : Int} (ha : -1099511627776 ≤ a ∧ a ≤ 1099511627776) (hb : -1099511627776 ≤ b ∧ b ≤ 1099511627776) (hc : -1099511627776 ≤ c ∧ c ≤ 1099511627776) (hd : -1099511627776 ≤ d ∧ d ≤ 1099511627776) : chkE (rotL (trcS s 0 t) u) (off4 a b c d) = 0 := by
  have h1 : ordN (off4 a b c d) (off4 a b c d).length = false := by simp [ordN, leAt]
  have h2 : (off4 a b c d).any rngB = false := by
    rw [List.any_eq_false]
    intro x hx
    simp only [List.mem_cons, List.not_mem_nil, or_false] at hx
    rcases hx with rfl | rfl | rfl | rfl <;> (simp [rngB]; omega)
  have h3 : (rotL (trcS s 0 t) u).any (gapB (off4 a b c d)) = false := by
    rw [List.any_eq_false]
    intro x hx
    obtain ⟨i, y, hi, rfl⟩ := trcS_mem ((rotL_perm _ _).mem_iff.2 hx)
    rw [gapB_any]
    have h4 : y.cl % 4 < 4 := Nat.mod_lt _ (by omega)
    have : ∀ k : Nat, k < 4 → ((off4 a b c d).any fun y => y.1 == ((1 + k : Nat) : Int)) = true := by
      intro k hk
      rcases k with _ | _ | _ | _ | k
      · simp
      · simp
      · simp
      · simp
      · omega
    have h5 := this (y.cl % 4) h4
    show ¬ (!((off4 a b c d).any fun z => z.1 == ((1 + y.cl % 4 : Nat) : Int))) = true
    rw [h5]; simp
  unfold chkE
  rw [h1, h2, h3]; rfl
theorem off4_I (a b c d : Int) : ∀ x ∈ off4 a b c d, I64 x.1 := fun x hx => by
  simp only [List.mem_cons, List.not_mem_nil, or_false] at hx
  unfold I64
  rcases hx with rfl | rfl | rfl | rfl <;> simp
theorem off4_nd (a b c d : Int) : ((off4 a b c d).map (·.1)).Nodup := by simp
/-- The times of a story's spans are small. -/
theorem at_small {s : Sto} {t : Tre} (h8 : t.cs.length ≤ 8) {x : Spn} (hx : x ∈ trcS s 0 t) (e : Bool) : -1000 < atS x e ∧ atS x e < 3000 := by
  obtain ⟨i, c, hi, rfl⟩ := trcS_mem hx
  have b := offC_b s (1 + c.cl % 4)
  have h1 := getD_le (stL_le h8) i
  have h2 := getD_le (enL_le h8) i
  have hby : -21 < byS s 0 i c ∧ byS s 0 i c < 521 := by unfold byS; split <;> omega
  cases e
  · show -1000 < (((stL t).getD i 0 : Nat) : Int) + byS s 0 i c ∧ (((stL t).getD i 0 : Nat) : Int) + byS s 0 i c < 3000
    omega
  · show -1000 < (((enL t).getD i 0 : Nat) : Int) + byS s 0 i c ∧ (((enL t).getD i 0 : Nat) : Int) + byS s 0 i c < 3000
    omega
theorem offI_4 (a b c d : Int) (k : Nat) (hk : k < 4) : offI (off4 a b c d) ((1 + k : Nat) : Int) = if k = 0 then a else if k = 1 then b else if k = 2 then c else d := by
  rcases k with _ | _ | _ | _ | k
  · simp [offI]
  · simp [offI]
  · simp [offI]
  · simp [offI]
  · omega
theorem tim4 {s : Sto} {t : Tre} (h8 : t.cs.length ≤ 8) {x : Spn} (hx : x ∈ trcS s 0 t) (e : Bool) {a b c d : Int} (ha : -100000 ≤ a ∧ a ≤ 100000) (hb : -100000 ≤ b ∧ b ≤ 100000) (hc : -100000 ≤ c ∧ c ≤ 100000) (hd : -100000 ≤ d ∧ d ≤ 100000) :
    timM (trcS s 0 t) (off4 a b c d) (evOf x e) = atS x e - offI (off4 a b c d) x.clk := by
  rw [timM_is _ (nodup_sorted (trcS_sorted s 0 t)) hx e]
  have h1 := at_small h8 hx e
  obtain ⟨i, y, hi, rfl⟩ := trcS_mem hx
  have h4 : y.cl % 4 < 4 := Nat.mod_lt _ (by omega)
  have h5 := offI_4 a b c d (y.cl % 4) h4
  have h6 : (spnS s 0 t i y).clk = ((1 + y.cl % 4 : Nat) : Int) := rfl
  rw [h6, h5]
  exact w64 (by split <;> (try split) <;> (try split) <;> omega) (by split <;> (try split) <;> (try split) <;> omega)
theorem bf_shift {s : Sto} {t : Tre} (h8 : t.cs.length ≤ 8) {a b c d n : Int} (ha : -1000 ≤ a ∧ a ≤ 1000) (hb : -1000 ≤ b ∧ b ≤ 1000) (hc : -1000 ≤ c ∧ c ≤ 1000) (hd : -1000 ≤ d ∧ d ≤ 1000) (hn : -1000 ≤ n ∧ n ≤ 1000) :
    ∀ x y, x ∈ evsL (trcS s 0 t) → y ∈ evsL (trcS s 0 t) → bfM (trcS s 0 t) (off4 a b c d) x y = bfM (trcS s 0 t) (off4 (a + n) (b + n) (c + n) (d + n)) x y := by
  have key : ∀ x ∈ evsL (trcS s 0 t), timM (trcS s 0 t) (off4 (a + n) (b + n) (c + n) (d + n)) x = timM (trcS s 0 t) (off4 a b c d) x - n := by
    intro x hx
    obtain ⟨z, hz, hx⟩ := List.mem_flatMap.1 hx
    have : ∀ e, timM (trcS s 0 t) (off4 (a + n) (b + n) (c + n) (d + n)) (evOf z e) = timM (trcS s 0 t) (off4 a b c d) (evOf z e) - n := fun e => by
      rw [tim4 h8 hz e (by omega) (by omega) (by omega) (by omega), tim4 h8 hz e (by omega) (by omega) (by omega) (by omega)]
      obtain ⟨i, y, hi, rfl⟩ := trcS_mem hz
      have h4 : y.cl % 4 < 4 := Nat.mod_lt _ (by omega)
      have h5 := offI_4 a b c d (y.cl % 4) h4
      have h6 := offI_4 (a + n) (b + n) (c + n) (d + n) (y.cl % 4) h4
      have h7 : (spnS s 0 t i y).clk = ((1 + y.cl % 4 : Nat) : Int) := rfl
      rw [h7, h5, h6]
      split
      · omega
      · split
        · omega
        · split <;> omega
    simp only [List.mem_cons, List.not_mem_nil, or_false] at hx
    rcases hx with rfl | rfl
    · exact this false
    · exact this true
  intro x y hx hy
  unfold bfM
  rw [key x hx, key y hy]
  by_cases h : timM (trcS s 0 t) (off4 a b c d) x < timM (trcS s 0 t) (off4 a b c d) y
  · rw [decide_eq_true h, decide_eq_true (by omega)]
  · rw [decide_eq_false h, decide_eq_false (by omega)]
/-- What 'turned' answers, for every turn of one story. -/
theorem turned_all (s : Sto) (hsB : s.okB) : (∀ u, u < 256 → PCall Tryz.prog 12 [stoT s, ft (.int .u8 (u : Nat))] (turnR none)) ∨
    ∃ t, s.ok ∧ turnT s = some t ∧ ∀ u, u < 256 → PCall Tryz.prog 12 [stoT s, ft (.int .u8 (u : Nat))] (turnR (some (rotL (trcS s 0 t) u, offT s 4))) := by
  cases hsh : shortS s with
  | false => exact .inl fun u _ => turned_c0 s hsh u
  | true =>
    have hs := hsB.ok hsh
    have c := fun u hu => turned_c s hs u hu
    unfold turnF at c
    cases ht : turnT s with
    | none => rw [ht] at c; exact .inl c
    | some t => rw [ht] at c; exact .inr ⟨t, hs, rfl, c⟩
theorem tmod_b (n m : Int) (hm : 0 < m) : -m < Int.tmod n m ∧ Int.tmod n m < m := by
  have h1 := Int.tmod_lt_of_pos n hm
  have h2 := Int.lt_tmod_of_pos n hm
  exact ⟨h2, h1⟩
attribute [local irreducible] W AX Run RunD AStep AOp AOpX AStB AStH AStG Fits PCall GCall PostG Post Stop
theorem shifts_c (c53 : SortC Tryz.prog 53 14) (c71 : SortI Tryz.prog 71) (g85 : GrowC Tryz.prog 85 3 1 8) (s : Sto) (hsB : s.okB) (a0 a1 : Nat) (ha0 : a0 < 256) (ha1 : a1 < 256) (n : Int) (hn : -32768 ≤ n ∧ n ≤ 32767) :
    PCall Tryz.prog 9 [stoT s, .g [fl (.int .u8 (a0 : Nat)), fl (.int .u8 (a1 : Nat))], ft (.int .i16 n)] (ft (.bool true)) := by
  have c11 := known_c c53 c71 g85
  rcases turned_all s hsB with c12 | ⟨t, hs, ht, c12⟩
  · have c12 := c12 0 (by omega)
    clear c53 c71 g85 hsB
    simp only [stoT, stoA, turnR, List.map, Option.map_none, Option.getD_none, Option.isSome_none] at c12 ⊢
    refine PCall.intro (nt := 91) (rs := [.tmp 6]) Tryz.func9 rfl ⟨by kernel_rfl, by kernel_rfl, by kernel_rfl⟩ (by simp) ?_
    rintro ⟨P, w0, ok0, may, np, pblk⟩ rfl rfl
    repeat' (first | ((show W _ _ _ _); first | refine W.seq fun K hK => ?_ | refine W.block ?_ | ((first | refine wR ?_ | refine wD ?_ | refine W.skip ?_ | refine W.exit ?_ | refine W.ret (Post.ret ?_)); simp only [go_sem, reduceCtorEq]) | refine wT ?_ | refine wF ?_ | refine wC (fun h => ?_) (fun h => ?_)) | ((show AX _ _ _ _ _); (first | refine aP ?_ | refine aF ?_ | refine aV ?_); simp only [go_sem, reduceCtorEq]) | refine iK ?_ | refine aI2 ?_ | (refine hK _ ?_; clear hK K) | clear hK K)
  · have hT0 := story_trn hs ht 0
    have hT1 := story_trn hs ht a1
    have h8 := (hs.1 t (List.mem_of_getElem? (turnT_is ht).2.1)).2.2.2
    have b1 := offC_b s 1
    have b2 := offC_b s 2
    have b3 := offC_b s 3
    have b4 := offC_b s 4
    obtain ⟨d, hd⟩ : ∃ d, d = Int.tmod n 1001 := ⟨_, rfl⟩
    have hdb : -1001 < d ∧ d < 1001 := by rw [hd]; exact tmod_b n 1001 (by omega)
    have c13 := fun r => hT0.c13 (off4 (offC s 1) (offC s 2) (offC s 3) (offC s 4)) c53 c71 g85 (off4_I _ _ _ _) (off4_nd _ _ _ _) (story_chk4 ht 0 (by omega) (by omega) (by omega) (by omega)) r
    have d13 := fun r => hT1.c13 (off4 (offC s 1 + d) (offC s 2 + d) (offC s 3 + d) (offC s 4 + d)) c53 c71 g85 (off4_I _ _ _ _) (off4_nd _ _ _ _) (story_chk4 ht a1 (by omega) (by omega) (by omega) (by omega)) r
    have hsame := fun r => pthM_same hT0 (bf_shift h8 (n := d) (a := offC s 1) (b := offC s 2) (c := offC s 3) (d := offC s 4) (by omega) (by omega) (by omega) (by omega) (by omega)) r
    have e0 := c12 0 (by omega)
    have e1 := c12 a1 ha1
    rw [show offT s 4 = off4 (offC s 1) (offC s 2) (offC s 3) (offC s 4) from offT_4 s] at e0 e1
    have hl0 : 0 < (rotL (trcS s 0 t) 0).length := by
      rw [← (rotL_perm _ 0).length_eq, trcS_len]; exact (turnT_is ht).2.2
    clear c12 c53 c71 g85 hsB hT0 hT1
    generalize rotL (trcS s 0 t) 0 = l at *
    generalize rotL (trcS s 0 t) a1 = m at *
    generalize trcS s 0 t = L at *
    have hid : ((1 : Int) + ((a0 % l.length : Nat) : Int)) = ((1 + a0 % l.length : Nat) : Int) := by omega
    have hk := Nat.mod_lt a0 hl0
    have q1 := w64n a0 (by omega)
    have q2 := tm a0 l.length
    have k13 := c13 ((1 + a0 % l.length : Nat) : Int)
    have m13 := d13 ((1 + a0 % l.length : Nat) : Int)
    rw [← hsame] at m13
    clear c13 d13 hsame
    have hml := Nat.mod_le a0 l.length
    have q3 : ((l.length : Int) == 0) = false := by rw [beq_eq_false_iff_ne]; omega
    generalize pthM L (off4 (offC s 1) (offC s 2) (offC s 3) (offC s 4)) ((1 + a0 % l.length : Nat) : Int) = P at *
    have c15 := same_c P.2 P.2
    rw [decide_eq_true rfl] at c15
    have h00 : (P.1 == P.1) = true := by simp
    have q4 : IntKind.i64.wrap (1 + ((a0 % l.length : Nat) : Int)) = ((1 + a0 % l.length : Nat) : Int) := by rw [hid]; exact w64n _ (by omega)
    have q5 : IntKind.i64.wrap d = d := w64 (by omega) (by omega)
    have hVW : ∀ (i : Nat) x, (off4 (offC s 1) (offC s 2) (offC s 3) (offC s 4))[i]? = some x → (off4 (offC s 1 + d) (offC s 2 + d) (offC s 3 + d) (offC s 4 + d))[i]? = some (x.1, x.2 + d) ∧ IntKind.i64.wrap (x.2 + d) = x.2 + d := by
      intro i x hx
      rcases i with _ | _ | _ | _ | i
      · cases hx; exact ⟨rfl, w64 (by simp only; omega) (by simp only; omega)⟩
      · cases hx; exact ⟨rfl, w64 (by simp only; omega) (by simp only; omega)⟩
      · cases hx; exact ⟨rfl, w64 (by simp only; omega) (by simp only; omega)⟩
      · cases hx; exact ⟨rfl, w64 (by simp only; omega) (by simp only; omega)⟩
      · simp at hx
    have hV4 : (off4 (offC s 1) (offC s 2) (offC s 3) (offC s 4)).length = 4 := rfl
    have hW4 : (off4 (offC s 1 + d) (offC s 2 + d) (offC s 3 + d) (offC s 4 + d)).length = 4 := rfl
    generalize off4 (offC s 1) (offC s 2) (offC s 3) (offC s 4) = V at *
    generalize off4 (offC s 1 + d) (offC s 2 + d) (offC s 3 + d) (offC s 4 + d) = U at *
    clear hid b1 b2 b3 b4
    simp only [stoT, stoA, turnR, List.map, Option.map_some, Option.getD_some, Option.isSome_some] at e0 e1 ⊢
    have hA : Tryz.prog.underlying 77 = some (.array 2 5) := by kernel_rfl
    have hE := tE5
    have hN : EL Tryz.prog 77 = none := by kernel_rfl
    have x0 : 0 + Int.toNat 0 * 1 = 0 := rfl
    have x1 : 0 + Int.toNat 1 * 1 = 1 := rfl
    refine PCall.intro (nt := 91) (rs := [.tmp 6]) Tryz.func9 rfl ⟨by kernel_rfl, by kernel_rfl, by kernel_rfl⟩ (by simp) ?_
    rintro ⟨P, w0, ok0, may, np, pblk⟩ rfl rfl
    repeat' (first | ((show W _ _ _ _); first | refine W.seq fun K hK => ?_ | refine W.block ?_ | ((first | refine wR ?_ | refine wD ?_ | refine W.skip ?_ | refine W.exit ?_ | refine W.ret (Post.ret ?_)); simp only [go_sem, reduceCtorEq, q1, q2, q3, q4, hN, x0, x1, List.length_map]) | refine wT ?_ | refine wF ?_ | refine wC (fun h => ?_) (fun h => ?_)) | ((show AX _ _ _ _ _); (first | refine aP ?_ | refine aF ?_ | refine aV ?_); simp only [go_sem, reduceCtorEq, q1, q2, q3, q4, hN, x0, x1, List.length_map]) | refine iK ?_ | refine aI2 ?_ | (refine hK _ ?_; clear hK K) | clear hK K)
    clear c11 e0 e1
    refine W.loopF (T := fun i : Nat => { t := [(2, ft (.int .i16 n)), (7, spsT l), (8, ofsT V), (10, spsT m), (13, ft (.int .i64 ((1 + a0 % l.length : Nat) : Int))), (14, .c (.ref 0)), (15, ft (.int .i64 (i : Nat)))], h := [(0, .row 80 (imR ((U.take i).map ofA)))], nx := 1, ex := [], nt := 91 })
      (Inv := fun i => i ≤ 4) (μ := fun i => 4 - i) (x0 := 0) ?_ (Nat.zero_le _) ?_
    · refine Fits.adopt 14 900 80 rfl rfl rfl tE80 rfl ?_
      refine Fits.fit [(900, 0)] [2, 7, 8, 10, 13, 14, 15] 1 rfl rfl ?_
      simp only [go_sem, List.take_zero, List.map_nil, imR_nil]
      exact Fits.rfl
    rintro i hi KL hKL
    by_cases h4 : i < 4
    · have f1 : decide ((i : Int) < V.length) = true := by rw [hV4]; simp; omega
      have f2 : decide (i < V.length) = true := by rw [hV4]; simp; omega
      have hw := w64s i (by omega)
      have hx := List.getElem?_eq_getElem (by omega : i < V.length)
      generalize V[i] = x at *
      obtain ⟨hy, hz⟩ := hVW i x hx
      have hrow : imR ((U.take (i + 1)).map ofA) = imR ((U.take i).map ofA) ++ [(ofA (x.1, x.2 + d)).map .im] := by
        rw [List.take_add_one, hy]; simp [imR, imL]
      have hUl : (U.take i).length = i := by rw [List.length_take, hW4]; omega
      simp only [ofA, List.map] at hrow
      clear hVW k13 m13 c15
      repeat' (first | ((show W _ _ _ _); first | refine W.seq fun K hK => ?_ | refine W.block ?_ | ((first | refine wR ?_ | refine wD ?_ | refine W.skip ?_ | refine W.exit ?_ | refine W.ret (Post.ret ?_)); simp only [go_sem, reduceCtorEq, List.getElem?_map, hx, ofA, f1, f2, hw, ← hd, q5, hz, List.length_map, imR_len, hUl]) | refine wT ?_ | refine wF ?_ | refine wC (fun h => ?_) (fun h => ?_)) | ((show AX _ _ _ _ _); (first | refine aP ?_ | refine aF ?_ | refine aV ?_); simp only [go_sem, reduceCtorEq, List.getElem?_map, hx, ofA, f1, f2, hw, ← hd, q5, hz, List.length_map, imR_len, hUl]) | refine iK ?_ | refine aI2 ?_ | (refine hK _ ?_; clear hK K) | clear hK K)

      refine hKL.to (i + 1) (by omega) (by omega) (Fits.fit [(22, 0)] [2, 7, 8, 10, 13, 14, 15] 1 rfl rfl ?_)
      simp only [go_sem, hrow]
      exact Fits.rfl
    · obtain rfl : i = 4 := by omega
      have f1 : decide (((4 : Nat) : Int) < V.length) = false := by rw [hV4]; decide
      rw [List.take_of_length_le (by omega)]
      simp only [pthT] at k13 m13
      clear hKL hVW
      repeat' (first | ((show W _ _ _ _); first | refine W.seq fun K hK => ?_ | refine W.block ?_ | ((first | refine wR ?_ | refine wD ?_ | refine W.skip ?_ | refine W.exit ?_ | refine W.ret (Post.ret ?_)); simp only [go_sem, reduceCtorEq, f1, List.length_map, h00, unim_im]) | refine wT ?_ | refine wF ?_ | refine wC (fun h => ?_) (fun h => ?_)) | ((show AX _ _ _ _ _); (first | refine aP ?_ | refine aF ?_ | refine aV ?_); simp only [go_sem, reduceCtorEq, f1, List.length_map, h00, unim_im]) | refine iK ?_ | refine aI2 ?_ | (refine hK _ ?_; clear hK K) | clear hK K)
end Go.Proofs.YtaaflhmfhnfjhaaGreat
namespace Go.Proofs.YtaaflhmfhnfjhaaGreat
open Go.ChangeShapes Go.WideShapes Go.ChangeAt Go.RowKit Go.Exe
set_option maxRecDepth 100000
set_option maxHeartbeats 1600000

def shiftsC : Prop := ∀ (x0 : List AV) (x1 : List AV) (x2 : AV), Typ Tryz.prog 6 27 x0 → Typ Tryz.prog 6 77 x1 → Typ Tryz.prog 6 78 [x2] → PCall Tryz.prog 9 [.g (x0.map .im), .g (x1.map .im), .c (.im x2)] (ft (.bool true))
theorem shifts_lifted (hc : shiftsC) (os : Os) (started : os.Started) (H : Type) (enc : TypeId × Value → H) :
    ReturnsInHanded {} Tryz.checked os 9 .any (Rows.criticalShiftsSpec.pre6 enc Tryz.prog Tryz.f9 Rows.criticalShiftsRow.domain false) (Rows.criticalShiftsSpec.post enc Tryz.prog Tryz.f9 false Rows.criticalShiftsRow.fresh Rows.criticalShiftsRow.handsOn Rows.criticalShiftsRow.again) := by
  refine returnsInHanded_of_change_sized (C := Tryz.checked) Tryz.own started (by kernel_rfl) Tryz.func9
    (ChangeSpec.witness6 (enc := enc) (C := Tryz.checked) false ⟨#[], #[.agg #[.slice none 0 0, .int .i8 0, .int .i8 0, .int .i8 0, .int .i8 0, .slice none 0 0, .int .u8 0], .agg #[.int .u8 0, .int .u8 0], .int .i16 0], []⟩ 8 (by kernel_rfl) (by kernel_rfl) (by kernel_rfl) (by kernel_rfl)) ?_
  intro W base args ds gs before hval0 hW _ hsz0 _
  have hsz : (DataW.weightsEach Tryz.prog (Tryz.f9.params.toList ++ Rows.criticalShiftsSpec.plain.varTypes Tryz.prog) (ds ++ gs)).all (· ≤ reachBytes) = true := hsz0
  clear hsz0
  have hval : ∀ (j : Nat) t v, Tryz.f9.params[j]? = some t → args[j]? = some v → Value.okWide Tryz.prog W .any base t v := hval0
  have hW' := hW
  obtain ⟨p, q, hA0, hV, rfl, hfz, hnd⟩ := hW
  have hA : DataW.TrodAll enc Tryz.prog W 0 (fun _ => true) true Tryz.f9.params.toList args.toList ds p := hA0
  rw [Tryz.params9] at hA hval hsz
  obtain ⟨v0, v1, v2, d0, d1, d2, p0, p1, p2, rfl, rfl, rfl, h0, h1, h2⟩ := trodAll_three hA
  obtain ⟨rfl, rfl⟩ := trodVars_none hV
  clear hA0 hval0
  simp only [List.append_nil] at hW'
  obtain ⟨x0, r0, y0⟩ := arg_g (j := 0) 6 (by kernel_rfl) (by obtain ⟨cs, hcs, _⟩ := okWide_struct rfl (hval 0 27 v0 rfl rfl); exact ⟨cs, hcs⟩) h0 hsz rfl rfl
  obtain ⟨x1, r1, y1⟩ := arg_g (j := 1) 6 (by kernel_rfl) (by obtain ⟨cs, hcs, _⟩ := okWide_array rfl (hval 1 77 v1 rfl rfl); exact ⟨cs, hcs⟩) h1 hsz rfl rfl
  obtain ⟨x2, r2, y2⟩ := arg_c (j := 2) 6 (by kernel_rfl) (by obtain ⟨z, hz⟩ := okWide_int rfl (hval 2 78 v2 rfl rfl); rw [hz]; rfl) h2 hsz rfl rfl
  have hlt : ∀ x ∈ p0 ++ p1 ++ p2, x.block < W.heap.size := fun x hx => by simpa using hW'.lt x hx
  have hargs : ∀ (W' : World), Below W.heap.size W W' → DataW.TrodAll enc Tryz.prog W' 0 (fun b => decide (b < W.heap.size)) true Tryz.f9.params.toList [v0, v1, v2] [d0, d1, d2] (p0 ++ p1 ++ p2) := fun W' hn => by
    have k27 : ∀ {v d ps}, DataW.Trod enc Tryz.prog W 0 (fun _ => true) true 27 v d ps → (∀ x ∈ ps, x.block < W.heap.size) → DataW.Trod enc Tryz.prog W' 0 (fun b => decide (b < W.heap.size)) true 27 v d ps :=
      fun h hl => Below.trod Tryz.laidOut (by kernel_rfl) (of_decide_eq_true (by kernel_rfl)) h hn hl
    have k77 : ∀ {v d ps}, DataW.Trod enc Tryz.prog W 0 (fun _ => true) true 77 v d ps → (∀ x ∈ ps, x.block < W.heap.size) → DataW.Trod enc Tryz.prog W' 0 (fun b => decide (b < W.heap.size)) true 77 v d ps :=
      fun h hl => Below.trod Tryz.laidOut (by kernel_rfl) (of_decide_eq_true (by kernel_rfl)) h hn hl
    have k78 : ∀ {v d ps}, DataW.Trod enc Tryz.prog W 0 (fun _ => true) true 78 v d ps → (∀ x ∈ ps, x.block < W.heap.size) → DataW.Trod enc Tryz.prog W' 0 (fun b => decide (b < W.heap.size)) true 78 v d ps :=
      fun h hl => Below.trod Tryz.laidOut (by kernel_rfl) (of_decide_eq_true (by kernel_rfl)) h hn hl
    rw [Tryz.params9, List.append_assoc]
    exact trodAll_mk3 (k27 h0 fun x hx => hlt x (by simp [hx])) (k77 h1 fun x hx => hlt x (by simp [hx])) (k78 h2 fun x hx => hlt x (by simp [hx]))
  have hcall := (hc x0 x1 x2 y0 y1 y2).2 (fun _ => True) W [v0, v1, v2] (Al.cons r0 (Al.cons r1 (Al.cons r2 Al.nil)))
  refine hcall.mono fun e W' ⟨v, he, ⟨hB, _⟩, hr⟩ => ?_
  subst he
  obtain rfl : v = .bool true := RepA.flat_eq hr
  refine ⟨_, rfl, _, _, _, [], p0 ++ p1 ++ p2, [], hW', ?_, ?_, ?_, hB.frame _, fun h => by cases h⟩
  · exact trodAll_mk1 (shut_bool under4 true)
  · exact hargs W' hB
  · rfl
theorem shifts_holds (hc : shiftsC) : Rows.CriticalShiftsSaid :=
  OpenClaim.holds_of_wide 9 Tryz.f9 rfl rfl rfl rfl rfl rfl rfl ⟨rfl, rfl, rfl, rfl, rfl⟩ rfl rfl rfl rfl rfl (by kernel_rfl) Tryz.func9 (by kernel_rfl)
    (of_decide_eq_true (by kernel_rfl)) (by unfold Func.isWrapper; rw [if_neg (by decide +kernel)]; exact ⟨rfl, rfl⟩)
    (fun os started H enc _ => shifts_lifted hc os started H enc)
end Go.Proofs.YtaaflhmfhnfjhaaGreat
namespace Go.Proofs.YtaaflhmfhnfjhaaGreat
open Go.RowKit Go.Exe
set_option maxRecDepth 100000
theorem i16_in {f : Nat} {x : AV} (h : Typ Tryz.prog (f + 1) 78 [x]) : ∃ n : Int, (-32768 ≤ n ∧ n ≤ 32767) ∧ x = .flat (.int .i16 n) := by
  obtain ⟨n, hx, h1, h2⟩ := Typ.int tU78 h
  simp [IntKind.min, IntKind.max, IntKind.signed, IntKind.bits] at h1 h2
  cases hx
  exact ⟨n, ⟨h1, h2⟩, rfl⟩
theorem u82_in {f : Nat} {xs : List AV} (h : Typ Tryz.prog (f + 2) 77 xs) : ∃ a b : Nat, a < 256 ∧ b < 256 ∧ xs = [.flat (.int .u8 (a : Nat)), .flat (.int .u8 (b : Nat))] := by
  obtain ⟨offs, rfl, hol, ho⟩ := Typ.arr (n := 2) (e := 5) (by kernel_rfl) h
  match offs, hol with
  | [q1, q2], _ =>
    obtain ⟨a, rfl, ha⟩ := Typ.u8 tU5 (ho q1 (by simp))
    obtain ⟨b, rfl, hb⟩ := Typ.u8 tU5 (ho q2 (by simp))
    exact ⟨a, b, ha, hb, rfl⟩
theorem ytaaflhmfhnfjhaagreat_criticalShifts_holds : Rows.CriticalShiftsSaid := shifts_holds fun x0 x1 x2 h0 h1 h2 => by
  obtain ⟨s, hs, rfl⟩ := sto_in (f := 0) h0
  obtain ⟨a, b, ha, hb, rfl⟩ := u82_in (f := 4) h1
  obtain ⟨n, hn, rfl⟩ := i16_in (f := 5) h2
  exact shifts_c sort53_c sort71_c grow85_c s hs a b ha hb n hn
end Go.Proofs.YtaaflhmfhnfjhaaGreat
