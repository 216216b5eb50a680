/-
  Xv: bytes and strings, shifts and bits, whether a slice is nil; how the reckoning's words read.
-/
import Derived.Test.YtegcmciglakicaaXu
import Derived.Lib.AppendStr
import Derived.Laws.BytesString
namespace Go.Exe
open Go.RowKit
set_option linter.unusedVariables false
set_option linter.unusedSimpArgs false

def bsA (l : List UInt8) : List (List AV) := l.map fun b => [.flat (.int .u8 (b.toNat : Int))]
theorem bsA_app (l m : List UInt8) : bsA (l ++ m) = bsA l ++ bsA m := by simp [bsA]
theorem bsA_len (l : List UInt8) : (bsA l).length = l.length := by simp [bsA]
section
variable {C : Ctx} {s : St}
theorem ZG_u8 {P : Program} {e : TypeId} {i : TypeInfo} (h : ZG P e = some (false, [.int .u8 0])) (hi : P.info? e = some i) : i.zero = some (.int .u8 0) := by
  unfold ZG at h
  rw [hi] at h
  simp only [Option.bind_some] at h
  cases hz : i.zero with
  | none => rw [hz] at h; simp at h
  | some z =>
    rw [hz] at h
    simp only [Option.bind_some] at h
    split at h
    · cases z <;> simp [zOf] at h <;> simp [h]
    · cases h
theorem run_append_str {P : Program} {w : World} {t u ty e : TypeId} (ht : P.underlying t = some (.slice e)) (hu : P.underlying u = some .string) (hi : EInfo P e = some (1, 1)) (hz : ZG P e = some (false, [.int .u8 0])) {v : Value} {n : Nat} {us : List Value} (ho : w.ownsRow 0 e 1 v n us) (b : ByteArray) (hb : n + b.size ≤ 140737488355328) :
    ∃ v' w', (Builtin.append_ #[t, u] ty #[v, .string b]).run P w = .ok v' w' ∧ w'.ownsRow 0 e 1 v' (n + b.size) (us ++ Lib.strCells b) ∧ w.grownBy w' v.ownBlock ∧ (v'.ownBlock = v.ownBlock ∨ v'.ownBlock = some w.heap.size ∧ w.heap.size < w'.heap.size) ∧ w.drawn ≤ w'.drawn := by
  obtain ⟨i, hie, his, hib⟩ := EInfo_spec hi
  have hz0 := ZG_u8 hz hie
  obtain ⟨v', w', h1, h2, h3, _⟩ := Lib.run_append_own_string (P := P) w 0 t u ty e i ht hu hie hz0 his hib v n us ho b (by unfold maxLen; omega) hb (Nat.zero_le _)
  refine ⟨v', w', h1, h2, h3, ?_⟩
  rcases ho.2 with ⟨rfl, rfl⟩ | ⟨g, cap, cur, rfl, _, hg, hnc, hcm, hcs, htake⟩
  · by_cases h0 : b.size = 0
    · have hr : (Builtin.append_ #[t, u] ty #[.slice none 0 0, .string b]).run P w = .ok (.slice none 0 0) w := by
        simp [Builtin.append_, run_underlying ht, run_underlying hu, sizeOf, typeInfo, hie, Builtin.lenOf, Builtin.firstCells, h0]
      rw [hr] at h1
      cases h1
      exact ⟨.inl rfl, Nat.le_refl _⟩
    · have hr := run_append_nil_string (P := P) w t u ty e i _ ht hu hie hz0 b (Nat.pos_of_ne_zero h0) (by omega) (by rw [hib]; omega)
      rw [hr] at h1
      cases h1
      exact ⟨.inr ⟨rfl, by simp⟩, Nat.le_succ _⟩
  · by_cases hroom : n + b.size ≤ cap
    · have hr := Lib.run_append_room_string (P := P) w t u ty e i ht hu hie his g n cap cur hg b hroom (by rw [hcs]; omega)
      rw [hr] at h1
      cases h1
      exact ⟨.inl rfl, Nat.le_refl _⟩
    · have hr := Lib.run_append_grow_string (P := P) w t u ty e i _ ht hu hie hz0 ⟨g, 0, none⟩ n cap us (by rw [his]; exact ho.1) (ho.cells (g := g) rfl) b (by omega) (by omega) (growslice_fits (by omega) (by rw [hib]; omega))
      rw [hr] at h1
      cases h1
      exact ⟨.inr ⟨rfl, by simp⟩, Nat.le_succ _⟩
theorem al_bytes {P : Program} {ok : Nat → Prop} {w : World} {U : Nat → Prop} {L : Where} (b : ByteArray) : Al (Al (RepC P ok w U L)) ((Lib.strCells b).map fun v => [v]) (imR (bsA b.data.toList)) := by
  unfold Lib.strCells bsA imR
  rw [List.map_map, List.map_map]
  refine ⟨by simp, fun i x y hx hy => ?_⟩
  simp only [List.getElem?_map, Option.map_eq_some_iff] at hx hy
  obtain ⟨c, hc, rfl⟩ := hx
  obtain ⟨d, hd, rfl⟩ := hy
  rw [hc] at hd
  cases hd
  exact Al.cons (RepA.flat rfl) Al.nil
theorem flatten_one {α : Type} (l : List α) : (l.map fun v => [v]).flatten = l := by induction l <;> simp_all
/-- append(v, s...): the bytes of a string, v a row of the run's own. -/
theorem AX.appendStr {k : Nat} {o : Oper} {K : List Key → List Upd → Prop} {t u e r : TypeId} {y z : Operand} {xs : List (List Cell)} {b : ByteArray} (ho : o.op = .call { callee := .builtin .append, args := #[y, z], argTypes := #[t, u] }) (ht : EL C.P t = some e) (hu : C.P.underlying u = some .string) (hi : EInfo C.P e = some (1, 1)) (hz : ZG C.P e = some (false, [.int .u8 0]))
    (hy : s.ev y = .c (.ref r)) (hr : s.ob r = some (.row e xs)) (hx : s.ev z = .c (.im (.flat (.string b)))) (hd : dstOk o.dst s.nt = true) (hb : xs.length + b.size ≤ 140737488355328) (h : K (opK y ++ opK z ++ [.h r]) (.del r :: .new k (.row e (xs ++ imR (bsA b.data.toList))) :: dU o.dst (.c (.ref k)))) : AX C k o s K := by
  refine ⟨_, _, fun s1 hag hnt hk => ?_, fun u hu j hj => ?_, h⟩
  · show OpOk C o s1 (((s1.delO r).new k (.row e (xs ++ imR (bsA b.data.toList)))).ups (dU o.dst (.c (.ref k))))
    rw [ups_dU]
    have e1 : s1.ev y = s.ev y := agree_ev hag (by intro x hx; simp [hx])
    have e2 : s1.ev z = s.ev z := agree_ev hag (by intro x hx; simp [hx])
    have e3 : s1.ob r = some (.row e xs) := by rw [agree_ob hag (by simp)]; exact hr
    refine opOk_val (by show ∀ i, o.dst = some i → i < s1.nt; rw [hnt]; exact dstOk_spec hd) fun ac w L hs => ?_
    have hv := hs.ev y
    rw [e1, hy] at hv
    obtain ⟨hus, hvr, _⟩ := hv
    have he := ev_flat hs (by rw [e2]; exact hx)
    obtain ⟨_, uss, sz', bs', hi', hs', hbb, ho', hblk, hul, hal, hone⟩ := hs.ob r _ e3
    rw [hi] at hi'
    cases hi'
    obtain ⟨v', w', hrun, hown', hg, hbk, hdr⟩ := run_append_str (ty := o.type) (EL_spec ht) hu hi hz ho' b hb
    have hlen : (imR (bsA b.data.toList)).length = b.size := by simp [imR, bsA]
    refine ⟨v', w', L.set k v'.ownBlock v', ?_, ?_, ?_⟩
    · unfold execOp
      simp only [ho, resolve, invoke, builtin, Sem.run_bind, Sem.run_pure, Result.andThen_ok, List.map_toArray, List.map_cons, List.map_nil, hvr, he]
      rw [hrun]
      rfl
    · refine hs.regrow e3 hk rfl hg hdr hbk fun hmv hup => ?_
      have hkk : (L.set k v'.ownBlock v').hv k = v' := by simp [Where.set]
      refine ⟨uss ++ ((Lib.strCells b).map fun v => [v]), 1, 1, hi, by decide, by rw [List.length_append, hlen]; omega, ?_, by rw [hkk]; simp [Where.set], ?_, ?_, ?_⟩
      · rw [hkk, List.flatten_append, flatten_one, List.length_append, hlen]; exact hown'
      · intro u hu
        rcases List.mem_append.1 hu with hu | hu
        · exact hul u hu
        · obtain ⟨x, _, rfl⟩ := List.mem_map.1 hu; rfl
      · exact (hal.append (al_bytes b)).imp fun _ _ h => h.imp fun _ _ h => h.move hmv (fun j hj => (St.used_new _ _ _ _).2 (.inr hj)) hup
      · intro u hu
        rw [List.flatten_append, flatten_one] at hu
        rcases List.mem_append.1 hu with hu | hu
        · exact hone u hu
        · exact Lib.strCells_oneCell b u hu
    · obtain ⟨a, cap, e1, _⟩ := ownsRow_slice hown'
      have hlen2 : (xs ++ imR (bsA b.data.toList)).length = xs.length + b.size := by rw [List.length_append, hlen]
      exact ⟨(St.used_new _ _ _ _).2 (.inl rfl), by simp [Where.set], a, _, cap, e1⟩
  · rcases List.mem_cons.1 hu with rfl | hu
    · exact hj.elim
    · rcases List.mem_cons.1 hu with rfl | hu
      · exact hj.symm
      · exact (given_dU u hu j hj).elim
/-- string(b): a row of bytes as a string. -/
theorem loadBytes {P : Program} {w : World} {a : Addr} {l : List UInt8} (hc : ∀ q u, (l.map fun b => Value.int .u8 (b.toNat : Int))[q]? = some u → w.cell? (a.add q) = some u) (n cap : Nat) (hn : l.length = n) : (Conv.bytesToString (.slice (some a) n cap)).run P w = .ok (.string ⟨l.toArray⟩) w := by
  subst hn
  have h1 := run_loadCells_list (P := P) w a (l.map fun b => Value.int .u8 (b.toNat : Int)) hc
  rw [List.length_map] at h1
  have h2 := run_bytesToString (P := P) w a l.length cap (l.map fun b => (b.toNat : Int)) (by rw [h1, List.map_map]; rfl)
  rw [h2]
  congr 2
  have key : ∀ (l : List UInt8) (acc : ByteArray), (l.map fun b => ((b.toNat : Nat) : Int)).foldl (fun r n => r.push (UInt8.ofNat n.toNat)) acc = ⟨acc.data ++ l.toArray⟩ := by
    intro l
    induction l with
    | nil => intro acc; simp
    | cons b l ih =>
      intro acc
      simp only [List.map_cons, List.foldl_cons]
      rw [ih]
      congr 1
      apply Array.toList_inj.1
      simp [ByteArray.push]
  rw [key]
  congr 1
  apply Array.toList_inj.1
  simp
theorem bytes_vals {P : Program} {ok : Nat → Prop} {w : World} {U : Nat → Prop} {L : Where} {l : List UInt8} {uss : List (List Value)} (h : Al (Al (RepC P ok w U L)) uss (imR (bsA l))) : uss.flatten = l.map fun b => Value.int .u8 (b.toNat : Int) := by
  induction l generalizing uss with
  | nil => obtain rfl := h.nil_right; rfl
  | cons b l ih =>
    obtain ⟨u, ur, rfl, h1, h2⟩ := h.cons_right
    obtain ⟨x, xr, rfl, h3, h4⟩ := h1.cons_right
    obtain rfl := h4.nil_right
    have h3 := RepA.flat_eq (show RepA P ok w x (.flat (.int .u8 (b.toNat : Int))) from h3)
    simp [ih h2, h3]
theorem AX.bytesStr {k : Nat} {o : Oper} {K : List Key → List Upd → Prop} {t u e : TypeId} {y : Operand} {c : Cell} (l : List UInt8) (ho : o.op = .convert t u y) (ht : EL C.P t = some e) (hu : C.P.underlying u = some .string) (hi : EInfo C.P e = some (1, 1)) (he : C.P.underlying e = some (.int .u8)) (hy : s.ev y = .c c) (hs : s.src e 1 c = some (imR (bsA l))) (hd : dstOk o.dst s.nt = true)
    (h : K (opK y ++ cellK c) (dU o.dst (ft (.string ⟨l.toArray⟩)))) : AX C k o s K := by
  refine ⟨_, _, fun s1 hag hnt hk => ?_, fun u hu j hj => (given_dU u hu j hj).elim, h⟩
  rw [ups_dU]
  have e1 : s1.ev y = s.ev y := agree_ev hag (by intro x hx; simp [hx])
  have e3 : s1.src e 1 c = some (imR (bsA l)) := by rw [(agree_cell hag (c := c) (by intro x hx; simp [hx]) 0 e 1 0 [] 0).2.2.2.2.2]; exact hs
  refine opOk_flat rfl (by rw [hnt]; exact dstOk_spec hd) fun a w L hs => ?_
  have hv := hs.ev y
  rw [e1, hy] at hv
  obtain ⟨ad, cap, hev, hc, hso⟩ := hs.src hi e3 hv
  have hlen : (imR (bsA l)).length = l.length := by simp [imR, bsA]
  have hrun : (Conv.bytesToString (a.eval y)).run C.P w = .ok (.string ⟨l.toArray⟩) w := by
    rw [hev]
    rcases hso with h0 | ⟨g, vss, rfl, _, h2, h3, h4, h5⟩
    · have : l = [] := List.eq_nil_of_length_eq_zero (by omega)
      subst this
      cases ad with
      | none => rfl
      | some g =>
        rw [show (imR (bsA [])).length = 0 from rfl]
        exact loadBytes (l := []) (by simp) 0 _ rfl
    · have hv := bytes_vals h4
      exact loadBytes (fun q u hq => h3 q u (by rw [hv]; exact hq)) _ _ hlen.symm
  unfold execOp
  rw [hev] at hrun
  simp [ho, hev, convert, run_underlying (EL_spec ht), run_underlying hu, run_underlying he, Sem.run_bind, hrun]
theorem AX.shr {k : Nat} {o : Oper} {K : List Key → List Upd → Prop} {t t' : TypeId} {y z : Operand} {kk kk' : IntKind} {a b : Int} (ho : o.op = .binOp .shr t y z t') (hy : s.ev y = ft (.int kk a)) (hz : s.ev z = ft (.int kk' b)) (hd : dstOk o.dst s.nt = true) (hb : 0 ≤ b) (h : K (opK y ++ opK z) (dU o.dst (ft (.int kk (a.fdiv (2 ^ (min b.toNat kk.bits))))))) : AX C k o s K := by
  refine ⟨_, _, fun s1 hag hnt hk => ?_, fun u hu j hj => (given_dU u hu j hj).elim, h⟩
  rw [ups_dU]
  have e1 : s1.ev y = s.ev y := agree_ev hag (by intro x hx; simp [hx])
  have e2 : s1.ev z = s.ev z := agree_ev hag (by intro x hx; simp [hx])
  refine opOk_flat rfl (by rw [hnt]; exact dstOk_spec hd) fun ac w L hs => ?_
  unfold execOp
  simp [ho, ev_flat hs (by rw [e1]; exact hy), ev_flat hs (by rw [e2]; exact hz), eqGuard, binOp, Op.shift, Sem.run_bind, show ¬ b < 0 by omega]
theorem AX.shl {k : Nat} {o : Oper} {K : List Key → List Upd → Prop} {t t' : TypeId} {y z : Operand} {kk kk' : IntKind} {a b : Int} (ho : o.op = .binOp .shl t y z t') (hy : s.ev y = ft (.int kk a)) (hz : s.ev z = ft (.int kk' b)) (hd : dstOk o.dst s.nt = true) (hb : 0 ≤ b) (h : K (opK y ++ opK z) (dU o.dst (ft (.int kk (kk.wrap (a * 2 ^ (min b.toNat kk.bits))))))) : AX C k o s K := by
  refine ⟨_, _, fun s1 hag hnt hk => ?_, fun u hu j hj => (given_dU u hu j hj).elim, h⟩
  rw [ups_dU]
  have e1 : s1.ev y = s.ev y := agree_ev hag (by intro x hx; simp [hx])
  have e2 : s1.ev z = s.ev z := agree_ev hag (by intro x hx; simp [hx])
  refine opOk_flat rfl (by rw [hnt]; exact dstOk_spec hd) fun ac w L hs => ?_
  unfold execOp
  simp [ho, ev_flat hs (by rw [e1]; exact hy), ev_flat hs (by rw [e2]; exact hz), eqGuard, binOp, Op.shift, Sem.run_bind, show ¬ b < 0 by omega]
def bitsV (op : BinOp) (kk : IntKind) (a b : Int) : Option Int := match op with
  | .and => some (kk.wrap ((BitVec.ofInt kk.bits a &&& BitVec.ofInt kk.bits b).toNat : Int))
  | .or => some (kk.wrap ((BitVec.ofInt kk.bits a ||| BitVec.ofInt kk.bits b).toNat : Int))
  | .xor => some (kk.wrap ((BitVec.ofInt kk.bits a ^^^ BitVec.ofInt kk.bits b).toNat : Int))
  | _ => none
theorem AX.bits {k : Nat} {o : Oper} {K : List Key → List Upd → Prop} {op : BinOp} {t t' : TypeId} {y z : Operand} {kk : IntKind} {a b n : Int} (ho : o.op = .binOp op t y z t') (hy : s.ev y = ft (.int kk a)) (hz : s.ev z = ft (.int kk b)) (hn : bitsV op kk a b = some n) (hd : dstOk o.dst s.nt = true) (h : K (opK y ++ opK z) (dU o.dst (ft (.int kk n)))) : AX C k o s K := by
  refine ⟨_, _, fun s1 hag hnt hk => ?_, fun u hu j hj => (given_dU u hu j hj).elim, h⟩
  rw [ups_dU]
  have e1 : s1.ev y = s.ev y := agree_ev hag (by intro x hx; simp [hx])
  have e2 : s1.ev z = s.ev z := agree_ev hag (by intro x hx; simp [hx])
  refine opOk_flat rfl (by rw [hnt]; exact dstOk_spec hd) fun ac w L hs => ?_
  unfold execOp
  cases op <;> simp only [bitsV] at hn <;> cases hn <;> simp [ho, ev_flat hs (by rw [e1]; exact hy), ev_flat hs (by rw [e2]; exact hz), eqGuard, binOp, Op.intBits, Sem.run_bind]
/-! ### slices that are nil or not -/
def nilS : Cell → Option Bool
  | .im (.flat (.slice none _ _)) => some true
  | .im (.sn _ _) => some false
  | .im (.sl _ (_ :: _)) => some false
  | _ => none
theorem RepA.sn_inv {P : Program} {ok : Nat → Prop} {w : World} {v : Value} {e : TypeId} {xs : List (List AV)} (h : RepA P ok w v (.sn e xs)) : RepA P ok w v (.sl e xs) ∧ v ≠ .slice none 0 0 := by
  cases h with
  | sn h hn => exact ⟨h, hn⟩
theorem AX.nilSl {k : Nat} {o : Oper} {K : List Key → List Upd → Prop} {op : BinOp} {t t' e : TypeId} {y : Operand} {c : Cell} {b : Bool} (ho : o.op = .binOp op t y (.const (.slice none 0 0)) t') (ht : EL C.P t = some e) (hop : op = .eql ∨ op = .neq) (hy : s.ev y = .c c) (hb : nilS c = some b) (hd : dstOk o.dst s.nt = true) (h : K (opK y) (dU o.dst (ft (.bool (if op = .eql then b else !b))))) : AX C k o s K := by
  refine ⟨_, _, fun s1 hag hnt hk => ?_, fun u hu j hj => (given_dU u hu j hj).elim, h⟩
  rw [ups_dU]
  have e1 : s1.ev y = s.ev y := agree_ev hag (by intro x hx; simp [hx])
  refine opOk_flat rfl (by rw [hnt]; exact dstOk_spec hd) fun ac w L hs => ?_
  have hv := hs.ev y
  rw [e1, hy] at hv
  have key : ∃ ad n cap, ac.eval y = .slice ad n cap ∧ ad.isNone = b := by
    unfold nilS at hb
    split at hb
    · rename_i n cap
      cases hb
      exact ⟨none, n, cap, RepA.flat_eq hv, rfl⟩
    · rename_i e xs
      cases hb
      obtain ⟨h, hn⟩ := RepA.sn_inv hv
      obtain ⟨a, n, c, h1, h2, h3, h4, h5⟩ := h.openSl
      rcases h5 with ⟨rfl, rfl, rfl⟩ | ⟨ad, _, _, rfl, _⟩
      · exact absurd h1 hn
      · exact ⟨some ad, n, c, h1, rfl⟩
    · rename_i e x xs
      cases hb
      obtain ⟨a, n, c, h1, h2, h3, h4, h5⟩ := RepA.openSl hv
      rcases h5 with ⟨rfl, rfl, _⟩ | ⟨ad, _, _, rfl, _⟩
      · simp at h2
      · exact ⟨some ad, n, c, h1, rfl⟩
    · cases hb
  obtain ⟨ad, n, cap, hev, hbb⟩ := key
  have heq : (Op.equal t (.slice ad n cap) (.slice none 0 0)).run C.P w = .ok b w := by
    have key : ∀ d, (Op.equalIn (d + 1) t (.slice ad n cap) (.slice none 0 0)).run C.P w = .ok b w := fun d => by
      unfold Op.equalIn
      cases ad <;> simp [run_underlying (EL_spec ht), Sem.run_bind] <;> exact hbb.symm
    exact key 9999
  unfold execOp
  have hc0 : ac.eval (.const (.slice none 0 0)) = .slice none 0 0 := rfl
  rcases hop with rfl | rfl <;> simp [ho, hev, hc0, eqGuard, binOp, heq, Sem.run_bind]
/-- Whether a slice that came in is nil. -/
theorem W.nilCase {c : Code} {Q : Exit → St → Prop} (i : Nat) {e : TypeId} {xs : List (List AV)} (hi : s.tv i = .c (.im (.sl e xs))) (h1 : xs = [] → W C c { s with t := ins i (.c (.im (.flat (.slice none 0 0)))) s.t } Q) (h2 : W C c { s with t := ins i (.c (.im (.sn e xs))) s.t } Q) : W C c s Q := by
  intro a w ⟨L, hs⟩
  have hv := hs.tm i
  rw [hi] at hv
  have hv : RepA C.P (okOf C s L) w (a.tmps.getD i undef) (.sl e xs) := hv
  have mk : ∀ x : AV, RepA C.P (okOf C s L) w (a.tmps.getD i undef) x → S C { s with t := ins i (.c (.im x)) s.t } a w := by
    intro x hx
    refine ⟨L, hs.os, hs.tape, hs.output, hs.size, hs.kept, hs.nt, fun j => ?_, hs.ob, hs.inj, hs.own, hs.defers, hs.pin⟩
    show RepT C.P (okOf C s L) w s.used L _ ((lk (ins i (.c (.im x)) s.t) j).getD (.c .dead))
    rw [lk_ins]
    by_cases e : i = j
    · subst e; rw [if_pos rfl]; exact hx
    · rw [if_neg e]; exact hs.tm j
  by_cases hn : a.tmps.getD i undef = .slice none 0 0
  · refine h1 ?_ a w (mk _ (by rw [hn]; exact RepA.flat rfl))
    rw [hn] at hv
    obtain ⟨_, n, c, h3, h4, _⟩ := hv.openSl
    cases h3
    exact List.eq_nil_of_length_eq_zero h4
  · exact h2 a w (mk _ (.sn hv hn))
end
theorem lk_swap {α : Type} {j k : Nat} {a b : α} (hjk : Nat.beq j k = false) (i : Nat) : lk [(j, a), (k, b)] i = lk [(k, b), (j, a)] i := by
  simp only [lk]
  cases h1 : Nat.beq j i with
  | true => obtain rfl := beq_t h1; rw [beq_ne (fun e => beq_f hjk e.symm)]; rfl
  | false => cases h2 : Nat.beq k i <;> rfl
theorem Fits.swap {C : Ctx} {s' : St} {t : List (Nat × TV)} {j k : Nat} {a b : Obj} {nx : Nat} {ex : List Nat} {nt : Nat} (hjk : Nat.beq j k = false) (h : Fits C ⟨t, [(k, b), (j, a)], nx, ex, nt⟩ s') : Fits C ⟨t, [(j, a), (k, b)], nx, ex, nt⟩ s' := fun x w hS => h x w (S_eqv hS ⟨fun _ => Eq.refl _, fun i => lk_swap hjk i, fun _ => Iff.rfl, Eq.refl _⟩)
/-- A nil slice is an empty slice, in a temporary. -/
theorem Fits.nilSl {C : Ctx} {s s' : St} (i e : Nat) (hi : s.tv i = .c (.im (.flat (.slice none 0 0)))) (h : Fits C { s with t := ins i (.c (.im (.sl e []))) s.t } s') : Fits C s s' := by
  intro a w ⟨L, hs⟩
  refine h a w ⟨L, hs.os, hs.tape, hs.output, hs.size, hs.kept, hs.nt, fun j => ?_, hs.ob, hs.inj, hs.own, hs.defers, hs.pin⟩
  show RepT C.P (okOf C s L) w s.used L _ ((lk (ins i (.c (.im (.sl e []))) s.t) j).getD (.c .dead))
  rw [lk_ins]
  by_cases e1 : i = j
  · subst e1
    rw [if_pos (Eq.refl _)]
    have hv := hs.tm i
    rw [hi] at hv
    have hv := RepA.flat_eq (show RepA C.P (okOf C s L) w _ (.flat (.slice none 0 0)) from hv)
    rw [hv]
    exact RepA.nil
  · rw [if_neg e1]; exact hs.tm j
theorem rnEs_setE (r : Ren) : ∀ (es : List (Value × Bool × List Cell)) (i : Nat) (c : Cell), rnEs r (setE es i c) = setE (rnEs r es) i (rnC r c)
  | [], _, _ => rfl
  | e :: l, 0, c => rfl
  | e :: l, i + 1, c => by simp only [setE, rnEs]; rw [rnEs_setE r l i c]
theorem rnEs_app (r : Ren) : ∀ (a b : List (Value × Bool × List Cell)), rnEs r (a ++ b) = rnEs r a ++ rnEs r b
  | [], _ => rfl
  | e :: l, b => by simp only [List.cons_append, rnEs]; rw [rnEs_app r l b]
/-- A temporary that leads to a frozen object, told as a tree. -/
theorem Fits.seeT {C : Ctx} {s s' : St} (i k : Nat) {x : AV} {c : Cell} (hi : s.tv i = .c c) (hc : c = .ref k ∨ c = .mp k) (hk : s.ob k = some (.fro x)) (h : Fits C { s with t := ins i (.c (.im x)) s.t } s') : Fits C s s' := by
  intro a w ⟨L, hs⟩
  refine h a w ⟨L, hs.os, hs.tape, hs.output, hs.size, hs.kept, hs.nt, fun j => ?_, hs.ob, hs.inj, hs.own, hs.defers, hs.pin⟩
  show RepT C.P (okOf C s L) w s.used L _ ((lk (ins i (.c (.im x)) s.t) j).getD (.c .dead))
  rw [lk_ins]
  by_cases e1 : i = j
  · subst e1
    rw [if_pos (Eq.refl _)]
    have hv := hs.tm i
    rw [hi] at hv
    have hx : RepA C.P (okOf C s L) w (L.hv k) x := (hs.ob k _ hk).2
    rcases hc with e2 | e2
    · subst e2; exact RepC.frozen hx (.inl hv)
    · subst e2; exact RepC.frozen hx (.inr hv)
  · rw [if_neg e1]; exact hs.tm j
/-- Here the reckoning is to stop. -/
def Stop (p : Prop) : Prop := p
theorem Stop.out {p : Prop} (h : p) : Stop p := h
theorem W.stop {C : Ctx} {id : Nat} {ops : Array Oper} {b : Bool} {s : St} {Q : Exit → St → Prop} (h : Stop (W C (.region id ops b) s Q)) : W C (.region id ops b) s Q := h
theorem GCall.fits {P : Program} {f np : Nat} {s0 s0' s1 : St} (h : GCall P f np s0 s1) (hf : ∀ C : Ctx, C.P = P → C.np = np → Fits C s0' s0) : GCall P f np s0' s1 :=
  ⟨h.1, fun C hC hnp vs w L hs => by
    obtain ⟨L', hs'⟩ := hf C hC hnp _ _ ⟨L, hs⟩
    exact h.2 C hC hnp vs w L' hs'⟩
theorem imR_of (xs : List (List AV)) : xs.map (fun y => y.map Cell.im) = imR xs := rfl
attribute [go_sem] rnEs_setE rnEs_app imR_len bsA_len imR_of nilS rnCss_im rnCs_im rnCss_app
end Go.Exe
