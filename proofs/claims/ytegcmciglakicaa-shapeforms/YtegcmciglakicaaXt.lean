/-
  Xt: maps: made, looked up, written, frozen, ranged over.
-/
import Derived.Test.YtegcmciglakicaaXs
namespace Go.Exe
open Go.RowKit
open Go.Maps (Keyed)
open Go.ChangeMaps (setBlock)
set_option linter.unusedVariables false
set_option linter.unusedSimpArgs false

open Classical in
/-- What stands behind a key. -/
noncomputable def mget (key : Value) : List (Value × Bool × List Cell) → Option (Bool × List Cell)
  | [] => none
  | e :: r => if e.1 = key then some e.2 else mget key r
open Classical in
noncomputable def mput (key : Value) (y : Bool × List Cell) : List (Value × Bool × List Cell) → List (Value × Bool × List Cell)
  | [] => [(key, y)]
  | e :: r => if e.1 = key then (key, y) :: r else e :: mput key y r
open Classical in
noncomputable def aget (key : Value) : List (Value × Bool × List AV) → Option (Bool × List AV)
  | [] => none
  | e :: r => if e.1 = key then some e.2 else aget key r
def froE : List (Value × Bool × List AV) → List (Value × Bool × List Cell)
  | [] => []
  | e :: r => (e.1, e.2.1, imL e.2.2) :: froE r
theorem froE_map : ∀ l, froE l = l.map fun e => (e.1, e.2.1, imL e.2.2)
  | [] => rfl
  | e :: r => by simp [froE, froE_map r]
theorem mget_fro (key : Value) : ∀ es, mget key (froE es) = (aget key es).map fun y => (y.1, imL y.2)
  | [] => rfl
  | e :: r => by
    simp only [froE, mget, aget]
    split
    · rfl
    · exact mget_fro key r
theorem mget_none {key : Value} : ∀ {es : List (Value × Bool × List Cell)}, (∀ e ∈ es, e.1 ≠ key) → mget key es = none
  | [], _ => rfl
  | e :: r, h => by
    simp only [mget]
    rw [if_neg (h e (by simp)), mget_none fun x hx => h x (by simp [hx])]
theorem mput_none {key : Value} {y : Bool × List Cell} : ∀ {es : List (Value × Bool × List Cell)}, (∀ e ∈ es, e.1 ≠ key) → mput key y es = es ++ [(key, y)]
  | [], _ => rfl
  | e :: r, h => by
    simp only [mput]
    rw [if_neg (h e (by simp)), mput_none fun x hx => h x (by simp [hx])]; rfl
theorem mget_at {key : Value} : ∀ {es : List (Value × Bool × List Cell)} {j : Nat} {e : Value × Bool × List Cell}, (es.map (·.1)).Nodup → es[j]? = some e → e.1 = key → mget key es = some e.2
  | x :: r, 0, e, _, h, he => by simp at h; subst h; simp [mget, he]
  | x :: r, j + 1, e, hn, h, he => by
    simp only [List.map_cons, List.nodup_cons] at hn
    have hne : x.1 ≠ key := by
      rintro rfl
      exact hn.1 (List.mem_map.2 ⟨e, List.mem_of_getElem? (by simpa using h), he⟩)
    simp only [mget]
    rw [if_neg hne]
    exact mget_at hn.2 (by simpa using h) he
theorem mput_at {key : Value} {y : Bool × List Cell} : ∀ {es : List (Value × Bool × List Cell)} {j : Nat} {e : Value × Bool × List Cell}, (es.map (·.1)).Nodup → es[j]? = some e → e.1 = key → mput key y es = es.set j (key, y)
  | x :: r, 0, e, _, h, he => by simp at h; subst h; simp [mput, he]
  | x :: r, j + 1, e, hn, h, he => by
    simp only [List.map_cons, List.nodup_cons] at hn
    have hne : x.1 ≠ key := by
      rintro rfl
      exact hn.1 (List.mem_map.2 ⟨e, List.mem_of_getElem? (by simpa using h), he⟩)
    simp only [mput]
    rw [if_neg hne, mput_at hn.2 (by simpa using h) he]; rfl
theorem mget_some {key : Value} {y : Bool × List Cell} : ∀ {es : List (Value × Bool × List Cell)}, mget key es = some y → ∃ j : Nat, es[j]? = some (key, y)
  | [], h => by simp [mget] at h
  | e :: r, h => by
    simp only [mget] at h
    split at h
    · rename_i he; cases h; exact ⟨0, by simp [← he]⟩
    · obtain ⟨j, hj⟩ := mget_some h; exact ⟨j + 1, by simpa using hj⟩

/-! ### facts of types -/
/-- A map type's key and element. -/
def MT (P : Program) (t : TypeId) : Option (TypeId × TypeId) := (P.underlying t).bind fun d => match d with | .map k e => some (k, e) | _ => none
theorem MT_spec {P : Program} {t k e : TypeId} (h : MT P t = some (k, e)) : P.underlying t = some (.map k e) := by
  unfold MT at h
  cases hd : P.underlying t with
  | none => simp [hd] at h
  | some d => cases d <;> simp [hd] at h; obtain ⟨rfl, rfl⟩ := h; rfl
def zOf : Value → Bool × List Value
  | .agg cs => (true, cs.toList)
  | v => (false, [v])
/-- A type's zero value: an aggregate or one cell. -/
def ZG (P : Program) (t : TypeId) : Option (Bool × List Value) := (P.info? t).bind fun i => i.zero.bind fun z => if (zOf z).2.all Value.oneCell' then some (zOf z) else none
theorem ZG_spec {P : Program} {t : TypeId} {g : Bool} {zs : List Value} (h : ZG P t = some (g, zs)) (w : World) : ∃ z, (zeroValue t).run P w = .ok z w ∧ ((g = true ∧ z = .agg zs.toArray) ∨ (g = false ∧ zs = [z])) ∧ ∀ v ∈ zs, v.oneCell' = true := by
  unfold ZG at h
  cases hi : P.info? t with
  | none => simp [hi] at h
  | some i =>
    cases hz : i.zero with
    | none => simp [hi, hz] at h
    | some z =>
      simp only [hi, hz, Option.bind_some] at h
      split at h
      · rename_i hall
        simp only [Option.some.injEq] at h
        refine ⟨z, by simp [zeroValue, typeInfo, hi, hz], ?_, fun v hv => ?_⟩
        · cases z <;> simp only [zOf, Prod.mk.injEq] at h <;> obtain ⟨rfl, rfl⟩ := h <;> simp
        · rw [h] at hall
          exact List.all_eq_true.1 hall v hv
      · cases h

/-- A key, as a value. -/
def flats : List Cell → Option (List Value)
  | [] => some []
  | .im (.flat v) :: r => (match flats r with | some l => some (v :: l) | none => none)
  | _ :: _ => none
def keyV : TV → Option Value
  | .c (.im (.flat v)) => some v
  | .g xs => (match flats xs with | some l => some (.agg l.toArray) | none => none)
  | _ => none
def KeyOk (P : Program) (kt : TypeId) (v : Value) : Prop := ∃ l, keyOf P kt v = some l
section
variable {C : Ctx} {s : St} {a : Act} {w : World} {L : Where}
theorem flats_spec {P : Program} {ok : Nat → Prop} {U : Nat → Prop} : ∀ {xs : List Cell} {l vs : List Value}, flats xs = some l → Al (RepC P ok w U L) vs xs → vs = l
  | [], l, vs, h, ha => by cases h; exact ha.nil_right
  | c :: r, l, vs, h, ha => by
    obtain ⟨v, vr, rfl, k1, k2⟩ := ha.cons_right
    unfold flats at h
    split at h
    · cases h; rename_i e; cases e
    · rename_i u r' e
      cases e
      split at h <;> try (cases h; done)
      rename_i l' hl
      cases h
      rw [RepA.flat_eq k1, flats_spec hl k2]
    · cases h
theorem keyV_spec {P : Program} {ok : Nat → Prop} {U : Nat → Prop} {v key : Value} {x : TV} (h : RepT P ok w U L v x) (hk : keyV x = some key) : v = key := by
  cases x with
  | c x =>
    unfold keyV at hk
    split at hk
    · rename_i u e; cases e; cases hk; exact RepA.flat_eq h
    · rename_i e; cases e
    · cases hk
  | g xs =>
    simp only [keyV] at hk
    split at hk <;> try (cases hk; done)
    rename_i l hl
    cases hk
    obtain ⟨vs, rfl, h2⟩ := h
    rw [flats_spec hl h2]
  | t ys => cases hk

/-! ### the map behind a cell -/
/-- A map that nobody writes any more. -/
def St.mpf (s : St) (kt : TypeId) : Cell → Option (List (Value × Bool × List AV))
  | .im (.mp kt' es) => (match Nat.beq kt kt' with | true => some es | false => none)
  | .im (.flat (.map none)) => some []
  | .mp k => (match s.ob k with
    | some (.fro (.mp kt' es)) => (match Nat.beq kt kt' with | true => some es | false => none)
    | _ => none)
  | _ => none
def St.mpc (s : St) (kt : TypeId) : Cell → Option (List (Value × Bool × List Cell))
  | .mp k => (match s.ob k with
    | some (.map kt' es) => (match Nat.beq kt kt' with | true => some es | false => none)
    | some (.fro (.mp kt' es)) => (match Nat.beq kt kt' with | true => some (froE es) | false => none)
    | _ => none)
  | .im (.mp kt' es) => (match Nat.beq kt kt' with | true => some (froE es) | false => none)
  | .im (.flat (.map none)) => some []
  | _ => none
def IsMap (C : Ctx) (s : St) (w : World) (L : Where) (kt : TypeId) (v : Value) (es : List (Value × Bool × List Cell)) : Prop :=
  (v = .map none ∧ es = []) ∨ ∃ b ms clk, v = .map (some b) ∧ w.heap[b]? = some (.map (List.toArray ms) clk) ∧ Al (fun (m : MapEntry) (e : Value × Bool × List Cell) => m.key = e.1 ∧ RepM C.P (okOf C s L) w s.used L m.val e.2) ms es ∧ (∀ m ∈ ms, m.born < clk) ∧ (ms.map (·.born)).Nodup ∧ Keys C.P kt (es.map (·.1))
theorem froE_get (es : List (Value × Bool × List AV)) (j : Nat) : (froE es)[j]? = es[j]?.map fun e => (e.1, e.2.1, imL e.2.2) := by rw [froE_map]; simp
theorem froE_keys (es : List (Value × Bool × List AV)) : (froE es).map (·.1) = es.map (·.1) := by rw [froE_map]; simp [Function.comp_def]
theorem RepA.isMap {P : Program} {ok : Nat → Prop} {U : Nat → Prop} {v : Value} {kt : TypeId} {es : List (Value × Bool × List AV)} (h : RepA P ok w v (.mp kt es)) :
    (v = .map none ∧ es = []) ∨ ∃ b ms clk, v = .map (some b) ∧ ok b ∧ w.heap[b]? = some (.map (List.toArray ms) clk) ∧ Al (fun (m : MapEntry) (e : Value × Bool × List Cell) => m.key = e.1 ∧ RepM P ok w U L m.val e.2) ms (froE es) ∧ (∀ m ∈ ms, m.born < clk) ∧ (ms.map (·.born)).Nodup ∧ Keys P kt (es.map (·.1)) := by
  cases h with
  | mpn => exact .inl ⟨rfl, rfl⟩
  | @mp _ _ b clk ms us hh hok hl hk hb hn hkey hr =>
    refine .inr ⟨b, ms, clk, rfl, hok, hh, ⟨by rw [froE_map]; simp [hl], fun j m e hm he => ?_⟩, hb, hn, hkey⟩
    rw [froE_get] at he
    obtain ⟨x, hx, rfl⟩ := Option.map_eq_some_iff.1 he
    obtain ⟨h1, h2, h3⟩ := hk j m x hm hx
    refine ⟨h1, ?_⟩
    have hal : Al (RepA P ok w) ((List.range x.2.2.length).map (us j)) x.2.2 := by
      refine ⟨by simp, fun i u y hu hy => ?_⟩
      simp only [List.getElem?_map, Option.map_eq_some_iff] at hu
      obtain ⟨i', hi', rfl⟩ := hu
      obtain ⟨hi1, hi2⟩ := List.getElem?_eq_some_iff.1 hi'
      simp only [List.getElem_range] at hi2
      subst hi2
      exact hr j i x y hx hy
    unfold RepM
    split
    · rename_i hg
      refine ⟨(List.range x.2.2.length).map (us j), by rw [h2, mval, if_pos hg], hal.map_right Cell.im fun _ _ h => h⟩
    · rename_i hg
      have h4 := h3 (by simpa using hg)
      match hx2 : x.2.2, h4 with
      | [y], _ =>
        refine ⟨.im y, by simp [imL], ?_⟩
        rw [hx2] at hal
        rw [h2, mval, if_neg hg, hx2]
        have := hal.2 0 _ y (by simp; rfl) rfl
        show RepA P ok w _ y
        simpa using this
theorem Sim.mpc (h : Sim C s a w L) {kt : TypeId} {c : Cell} {es : List (Value × Bool × List Cell)} (hc : s.mpc kt c = some es) {v : Value} (hv : RepC C.P (okOf C s L) w s.used L v c) : IsMap C s w L kt v es := by
  have fro : ∀ {v : Value} {es : List (Value × Bool × List AV)}, RepA C.P (okOf C s L) w v (.mp kt es) → IsMap C s w L kt v (froE es) := by
    intro v es h
    rcases h.isMap (U := s.used) (L := L) with ⟨rfl, rfl⟩ | ⟨b, ms, clk, h1, _, h2, h3, h4, h5, h6⟩
    · exact .inl ⟨rfl, rfl⟩
    · exact .inr ⟨b, ms, clk, h1, h2, h3, h4, h5, by rw [froE_keys]; exact h6⟩
  cases c <;> simp only [St.mpc] at hc <;> try (cases hc; done)
  case mp k =>
    obtain ⟨_, hb, b, rfl⟩ := hv
    split at hc <;> try (cases hc; done)
    · rename_i kt' es' hob
      split at hc <;> try (cases hc; done)
      rename_i he
      cases hc
      obtain rfl := beq_t he
      obtain ⟨_, b', ms, clk, ⟨h1, h2, h3⟩, h4, h5, h6, h7, h8⟩ := h.ob k _ hob
      rw [h2] at hb
      cases hb
      exact .inr ⟨b, ms, clk, rfl, h4, h5, h6, h7, h3⟩
    · rename_i kt' es' hob
      split at hc <;> try (cases hc; done)
      rename_i he
      cases hc
      obtain rfl := beq_t he
      obtain ⟨_, h1⟩ := h.ob k _ hob
      have h1 : RepA C.P (okOf C s L) w (L.hv k) (.mp kt es') := h1
      rw [← hb] at h1
      exact fro h1
  case im x =>
    cases x with
    | flat u =>
      cases u <;> try (cases hc; done)
      rename_i r
      cases r <;> cases hc
      exact .inl ⟨RepA.flat_eq hv, rfl⟩
    | mp kt' es' =>
      simp only at hc
      split at hc <;> try (cases hc; done)
      rename_i he
      cases hc
      obtain rfl := beq_t he
      exact fro hv
    | _ => cases hc
end
/-! ### reading -/
def seeT (y : Bool × List Cell) : TV := compTV (y.1, seeL y.2)
def lookTV (ok : Bool) (r : Option (Bool × List Cell)) (g : Bool) (zs : List Value) : TV :=
  match ok with
  | true => (match r with
    | some y => .t [(y.1, seeL y.2), (false, [fl (.bool true)])]
    | none => .t [(g, zs.map fl), (false, [fl (.bool false)])])
  | false => (match r with
    | some y => seeT y
    | none => compTV (g, zs.map fl))
section
variable {C : Ctx} {s : St} {a : Act} {w : World} {L : Where}
theorem RepM.see {P : Program} {ok : Nat → Prop} {U : Nat → Prop} {v : Value} {y : Bool × List Cell} (h : RepM P ok w U L v y) : RepT1 P ok w U L v (y.1, seeL y.2) := by
  unfold RepM at h
  unfold RepT1
  split at h
  · rename_i hc
    rw [if_pos hc]
    obtain ⟨vs, h1, h2⟩ := h
    refine ⟨vs, h1, ?_⟩
    rw [seeL_map]
    refine h2.map_right _ fun v c h => ?_
    exact RepN.see (RepN.plain h)
  · rename_i hc
    rw [if_neg hc]
    obtain ⟨c, h1, h2⟩ := h
    exact ⟨c.see, by simp [h1, seeL], h2.see⟩
theorem findKeyed {P : Program} {kt : TypeId} (K : Keyed P kt) {key : Value} (hk : KeyOk P kt key) {R : Value → Bool × List Cell → Prop} {ms : List MapEntry} {es : List (Value × Bool × List Cell)} (hal : Al (fun (m : MapEntry) (e : Value × Bool × List Cell) => m.key = e.1 ∧ R m.val e.2) ms es) (hkeys : Keys P kt (es.map (·.1))) (w : World) :
    ((Instr.findKey kt key ms).run P w = .ok none w ∧ (∀ e ∈ es, e.1 ≠ key) ∧ mget key es = none) ∨ ∃ j m e, (Instr.findKey kt key ms).run P w = .ok (some (j, m.val)) w ∧ ms[j]? = some m ∧ es[j]? = some e ∧ m.key = key ∧ e.1 = key ∧ R m.val e.2 ∧ mget key es = some e.2 := by
  obtain ⟨l, hl⟩ := hk
  have hms : ∀ m ∈ ms, ∃ l, keyOf P kt m.key = some l := by
    intro m hm
    obtain ⟨j, hj⟩ := List.getElem?_of_mem hm
    obtain ⟨e, he, h1, _⟩ := hal.get_left hj
    rw [h1]
    exact hkeys.1 _ (List.mem_map_of_mem (List.mem_of_getElem? he))
  rcases K.find w hl ms hms with ⟨h1, h2⟩ | ⟨j, m, h1, h2, h3⟩
  · have h4 : ∀ e ∈ es, e.1 ≠ key := by
      intro e he
      obtain ⟨j, hj⟩ := List.getElem?_of_mem he
      obtain ⟨m, hm, h5, _⟩ := hal.get_right hj
      rw [← h5]
      exact h2 m (List.mem_of_getElem? hm)
    exact .inl ⟨h1, h4, mget_none h4⟩
  · obtain ⟨e, he, h4, h5⟩ := hal.get_left h2
    exact .inr ⟨j, m, e, h1, h2, he, h3, by rw [← h4]; exact h3, h5, mget_at hkeys.2 he (by rw [← h4]; exact h3)⟩
def okTV (ok : Bool) (y1 : Bool × List Cell) (b : Bool) : TV := match ok with | true => .t [y1, (false, [fl (.bool b)])] | false => compTV y1
def mapK : Cell → List Key
  | .mp j => [.h j]
  | _ => []
theorem AX.lookup {k : Nat} {o : Oper} {K : List Key → List Upd → Prop} {t kt e : TypeId} {y z : Operand} {ok : Bool} {c : Cell} {es : List (Value × Bool × List Cell)} {key : Value} {g : Bool} {zs : List Value} (ho : o.op = .lookup t y z ok) (ht : MT C.P t = some (kt, e)) (hz : ZG C.P e = some (g, zs)) (KK : Keyed C.P kt)
    (hy : s.ev y = .c c) (hc : s.mpc kt c = some es) (hkey : keyV (s.ev z) = some key) (hk : KeyOk C.P kt key) (hd : dstOk o.dst s.nt = true) (h : K (opK y ++ opK z ++ mapK c) (dU o.dst (lookTV ok (mget key es) g zs))) : AX C k o s K := by
  refine ⟨_, _, fun s1 hag hnt hku => ?_, fun u hu j hj => (given_dU u hu j hj).elim, h⟩
  rw [ups_dU]
  have e1 : s1.ev y = s.ev y := agree_ev hag (by intro x hx; simp [hx])
  have e2 : s1.ev z = s.ev z := agree_ev hag (by intro x hx; simp [hx])
  have e3 : s1.mpc kt c = s.mpc kt c := by
    cases c with
    | mp j => simp only [St.mpc]; rw [agree_ob hag (by simp [mapK])]
    | im x => cases x <;> first | rfl | (rename_i u; cases u <;> first | rfl | (rename_i p; cases p <;> rfl))
    | _ => rfl
  refine opOk_same (by rw [hnt]; exact dstOk_spec hd) fun a w L hs => ?_
  have hv := hs.ev y
  rw [e1, hy] at hv
  have hm := hs.mpc (by rw [e3]; exact hc) hv
  have hkv : a.eval z = key := keyV_spec (hs.ev z) (by rw [e2]; exact hkey)
  have htt := MT_spec ht
  obtain ⟨zv, hz1, hz2, hz3⟩ := ZG_spec hz w
  have hzr : RepT1 C.P (okOf C s1 L) w s1.used L zv (g, zs.map fl) := by
    unfold RepT1
    rcases hz2 with ⟨rfl, rfl⟩ | ⟨rfl, rfl⟩
    · exact ⟨zs, rfl, al_flat hz3⟩
    · exact ⟨fl zv, rfl, RepA.flat (hz3 zv (by simp))⟩
  obtain ⟨lk', hlk⟩ := hk
  have fin : ∀ (v : Value) (b : Bool) (y1 : Bool × List Cell), RepT1 C.P (okOf C s1 L) w s1.used L v y1 → (Instr.lookup t (a.eval y) (a.eval z) ok).run C.P w = .ok (if ok then .tuple #[v, .bool b] else v) w →
      lookTV ok (mget key es) g zs = okTV ok y1 b → ∃ v, (execOp a.eval o).run C.P w = .ok (.value v) w ∧ RepT C.P (okOf C s1 L) w s1.used L v (lookTV ok (mget key es) g zs) := by
    intro v b y1 h1 h2 h3
    refine ⟨if ok then .tuple #[v, .bool b] else v, ?_, ?_⟩
    · unfold execOp
      simp only [ho, Sem.run_bind, h2, Result.andThen_ok]
      rfl
    · rw [h3]
      cases ok with
      | true => exact ⟨[v, .bool b], rfl, Al.cons h1 (Al.cons ⟨fl (.bool b), rfl, RepA.flat rfl⟩ Al.nil)⟩
      | false => exact h1.toT
  rcases hm with ⟨hm, rfl⟩ | ⟨b, ms, clk, hm, hh, hal, hbn, hnd, hkeys⟩
  · refine fin zv false (g, zs.map fl) hzr ?_ ?_
    · have hf : (Instr.findKey kt key []).run C.P w = .ok none w := by
        rcases KK.find w hlk [] (by simp) with ⟨h1, _⟩ | ⟨j, e, _, h2, _⟩
        · exact h1
        · simp at h2
      have hck := KK.check w true hlk
      have h0 : (Array.toList #[] : List MapEntry) = [] := rfl
      simp [Instr.lookup, hm, hkv, run_underlying htt, Sem.run_bind, hck, hf, hz1]
    · simp only [mget]
      cases ok <;> rfl
  · have hck := KK.check w (List.toArray ms).isEmpty hlk
    rcases findKeyed KK ⟨lk', hlk⟩ hal hkeys w with ⟨hf, hne, hmg⟩ | ⟨j, m, e, hf, h1, h2, h3, h4, h5, hmg⟩
    · refine fin zv false (g, zs.map fl) hzr ?_ (by rw [hmg]; cases ok <;> rfl)
      have hgo : (getObj b).run C.P w = .ok (.map (List.toArray ms) clk) w := by simp [getObj, Sem.run, hh]
      simp [Instr.lookup, hm, hkv, run_underlying htt, Sem.run_bind, hgo]
      simp at hck
      simp [hck, hf, hz1]
    · refine fin m.val true (e.2.1, seeL e.2.2) h5.see ?_ (by rw [hmg]; cases ok <;> rfl)
      have hgo : (getObj b).run C.P w = .ok (.map (List.toArray ms) clk) w := by simp [getObj, Sem.run, hh]
      simp [Instr.lookup, hm, hkv, run_underlying htt, Sem.run_bind, hgo]
      simp at hck
      simp [hck, hf, hz1]
end
/-! ### writing -/
def noOwnO : Option (Bool × List Cell) → Bool
  | some y => noOwn y.2
  | none => true
theorem fpE_app (ms : List MapEntry) (es : List (Value × Bool × List Cell)) (h : ms.length = es.length) (m : MapEntry) (e : Value × Bool × List Cell) : fpE (ms ++ [m]) (es ++ [e]) = fpE ms es ++ fpM m.val e.2 := by
  unfold fpE
  rw [List.zipWith_append h, List.flatten_append]
  simp
theorem fpE_set : ∀ {ms : List MapEntry} {es : List (Value × Bool × List Cell)} {j : Nat} {m m' : MapEntry} {e e' : Value × Bool × List Cell}, ms[j]? = some m → es[j]? = some e → fpM m'.val e'.2 = fpM m.val e.2 → fpE (ms.set j m') (es.set j e') = fpE ms es
  | [], _, _, _, _, _, _, h, _, _ => by simp at h
  | _ :: _, [], _, _, _, _, _, _, h, _ => by simp at h
  | a :: r, b :: q, 0, m, m', e, e', h1, h2, h3 => by
    simp at h1 h2; subst h1; subst h2
    simp [fpE, h3]
  | a :: r, b :: q, j + 1, m, m', e, e', h1, h2, h3 => by
    have := fpE_set (ms := r) (es := q) (j := j) (m := m) (e := e) (m' := m') (e' := e') (by simpa using h1) (by simpa using h2) h3
    simp only [fpE, List.set_cons_succ, List.zipWith_cons_cons, List.flatten_cons] at this ⊢
    rw [this]
theorem fpM_plain {v : Value} {y : Bool × List Cell} (h : ∀ c ∈ y.2, c.own1 = false) : fpM v y = [] := by
  unfold fpM
  split
  · rfl
  · cases hy : y.2 with
    | nil => rfl
    | cons c l => exact fpV_plain (h c (by simp [hy]))
section
variable {C : Ctx} {s : St} {a : Act} {w : World} {L : Where}
theorem RepM.plain {P : Program} {ok : Nat → Prop} {U : Nat → Prop} {v : Value} {y : Bool × List Cell} (h : RepT1 P ok w U L v y) : RepM P ok w U L v y := by
  unfold RepT1 at h
  unfold RepM
  split at h
  · rename_i hc; rw [if_pos hc]; exact h
  · rename_i hc; rw [if_neg hc]
    obtain ⟨c, h1, h2⟩ := h
    exact ⟨c, h1, RepN.plain h2⟩
theorem RepT1.no_own {P : Program} {ok : Nat → Prop} {U : Nat → Prop} {v : Value} {y : Bool × List Cell} (h : RepT1 P ok w U L v y) : ∀ c ∈ y.2, c.own1 = false := by
  unfold RepT1 at h
  split at h
  · obtain ⟨vs, _, h2⟩ := h
    intro c hc
    obtain ⟨i, hi⟩ := List.getElem?_of_mem hc
    obtain ⟨v, _, h3⟩ := h2.get_right hi
    exact h3.no_own
  · obtain ⟨c, h1, h2⟩ := h
    intro d hd
    rw [h1] at hd
    simp at hd; subst hd
    exact h2.no_own
theorem run_setMap {P : Program} {b : Nat} {ms : Array MapEntry} {clk : Nat} (hh : w.heap[b]? = some (.map ms clk)) (o' : Go.Obj) : (setObj b o').run P w = .ok () (setBlock w b o') := by
  simp [setObj, Sem.run, hh, setBlock]
theorem AX.mapUpdate {k : Nat} {o : Oper} {K : List Key → List Upd → Prop} {t kt e k0 : TypeId} {m z x : Operand} {es : List (Value × Bool × List Cell)} {key : Value} {y : Bool × List Cell} (ho : o.op = .mapUpdate t m z x) (hd : o.dst = none) (ht : MT C.P t = some (kt, e)) (KK : Keyed C.P kt)
    (hm : s.ev m = .c (.mp k0)) (hob : s.ob k0 = some (.map kt es)) (hkey : keyV (s.ev z) = some key) (hk : KeyOk C.P kt key) (hx : toComp (s.ev x) = some y) (hnn : noOwnO (mget key es) = true) (h : K (opK m ++ opK z ++ opK x ++ [.h k0]) [.set k0 (.map kt (mput key y es))]) : AX C k o s K := by
  refine ⟨_, _, fun s1 hag hnt hku => ?_, fun u hu j hj => by simp at hu; subst hu; exact hj.elim, h⟩
  show OpOk C o s1 (s1.putO k0 (.map kt (mput key y es)))
  have e1 : s1.ev m = s.ev m := agree_ev hag (by intro x hx; simp [hx])
  have e2 : s1.ev z = s.ev z := agree_ev hag (by intro x hx; simp [hx])
  have e3 : s1.ev x = s.ev x := agree_ev hag (by intro x hx; simp [hx])
  have e4 : s1.ob k0 = some (.map kt es) := by rw [agree_ob hag (by simp)]; exact hob
  refine opOk_skip hd fun a w L hs => ?_
  have hv := hs.ev m
  rw [e1, hm] at hv
  obtain ⟨hu0, hv1, _⟩ := hv
  obtain ⟨_, b, ms, clk, ⟨h1, h2, hkeys⟩, hh, hal, hbn, hnd, hsub⟩ := hs.ob k0 _ e4
  rw [h2] at hv1
  have hkv : a.eval z = key := keyV_spec (hs.ev z) (by rw [e2]; exact hkey)
  have htt := MT_spec ht
  have hxr := comp_rep (hs.ev x) (by rw [e3]; exact hx)
  obtain ⟨lk', hlk⟩ := hk
  have hck := KK.check w false hlk
  have hgo : (getObj b).run C.P w = .ok (.map (List.toArray ms) clk) w := by simp [getObj, Sem.run, hh]
  have hstay := KK.stays w hlk
  rcases findKeyed KK ⟨lk', hlk⟩ hal hkeys w with ⟨hf, hne, hmg⟩ | ⟨j, m0, e0, hf, h3, h4, h5, h6, h7, hmg⟩
  · rw [mput_none hne]
    let w' := setBlock w b (.map ((List.toArray ms).push { key := key, val := a.eval x, born := clk }) (clk + 1))
    refine ⟨w', L, ?_, ?_⟩
    · unfold execOp
      simp [ho, Instr.mapUpdate, hv1, hkv, run_underlying htt, Sem.run_bind, hgo, hck, hf, run_setMap hh, w']
    · refine hs.write (w' := w') e4 rfl rfl (.inl h1) rfl rfl ⟨rfl, Nat.le_refl _⟩ (by simp [w', setBlock]) (fun x hx => ChangeMaps.heap_setBlock_other hh _ hx) fun hmv => ?_
      refine ⟨b, ms ++ [{ key := key, val := a.eval x, born := clk }], clk + 1, ⟨h1, h2, ?_⟩, ?_, ?_, ?_, ?_, ?_⟩
      · refine ⟨fun x hx => ?_, ?_⟩
        · simp only [List.map_append, List.mem_append, List.map_cons, List.map_nil, List.mem_singleton] at hx
          rcases hx with hx | rfl
          · exact hkeys.1 x hx
          · exact ⟨lk', hlk⟩
        · simp only [List.map_append, List.map_cons, List.map_nil]
          refine List.nodup_append.2 ⟨hkeys.2, by simp, fun x hx y hy => ?_⟩
          simp at hy; subst hy
          obtain ⟨e1, he1, rfl⟩ := List.mem_map.1 hx
          exact hne e1 he1
      · rw [ChangeMaps.heap_setBlock_same hh]; simp
      · refine (hal.imp_at fun i x e hx he h => ⟨h.1, h.2.move hmv (fun _ h => h) (Where.upto_refl _ _) fun b' hb' => ChangeMaps.heap_setBlock_other hh _ fun e2 => ?_⟩).append (Al.cons ⟨rfl, RepM.move (RepM.plain hxr) hmv (fun _ h => h) (Where.upto_refl _ _) (by rw [fpM_plain hxr.no_own]; simp)⟩ Al.nil)
        exact (hsub.2 b' (mem_fpE hx he hb')).2 (by rw [e2]; exact h1)
      · intro m hm
        simp only [List.mem_append, List.mem_singleton] at hm
        rcases hm with hm | rfl
        · exact Nat.lt_succ_of_lt (hbn m hm)
        · exact Nat.lt_succ_self _
      · simp only [List.map_append, List.map_cons, List.map_nil]
        refine List.nodup_append.2 ⟨hnd, by simp, fun x hx y hy => ?_⟩
        simp at hy; subst hy
        obtain ⟨e1, he1, rfl⟩ := List.mem_map.1 hx
        exact Nat.ne_of_lt (hbn e1 he1)
      · rw [fpE_app ms es hal.1, fpM_plain hxr.no_own, List.append_nil]
        exact hsub
  · rw [mput_at hkeys.2 h4 h6]
    let m1 : MapEntry := { m0 with key := key, val := a.eval x }
    let w' := setBlock w b (.map (List.toArray (ms.set j m1)) clk)
    have hset : (List.toArray ms).modify j (fun e => { e with key := key, val := a.eval x }) = List.toArray (ms.set j m1) := by
      apply Array.toList_inj.1
      simp only [Array.toList_modify]
      apply List.ext_getElem?
      intro i
      rw [List.getElem?_modify, List.getElem?_set]
      have hjl := (List.getElem?_eq_some_iff.1 h3).1
      by_cases e : j = i
      · subst e
        rw [if_pos rfl, if_pos hjl, h3]
        show some (if j = j then _ else _) = _
        rw [if_pos rfl]
      · rw [if_neg e]
        cases ms[i]? with
        | none => rfl
        | some x => show some (if j = i then _ else _) = _; rw [if_neg e]
    refine ⟨w', L, ?_, ?_⟩
    · unfold execOp
      have h8 : ((List.toArray ms)[j]?.map (·.key)).getD key = key := by simp [h3, h5]
      simp only [ho, Instr.mapUpdate, hv1, hkv, run_underlying htt, Sem.run_bind, hgo, hck, hf, Result.andThen_ok, h8, hstay, hset, run_setMap hh]
      rfl
    · refine hs.write (w' := w') e4 rfl rfl (.inl h1) rfl rfl ⟨rfl, Nat.le_refl _⟩ (by simp [w', setBlock]) (fun x hx => ChangeMaps.heap_setBlock_other hh _ hx) fun hmv => ?_
      have hold : fpM m0.val e0.2 = [] := by
        rw [hmg] at hnn
        exact fpM_plain (noOwn_mem hnn)
      refine ⟨b, ms.set j m1, clk, ⟨h1, h2, ?_⟩, ?_, ?_, ?_, ?_, ?_⟩
      · have : (es.set j (key, y)).map (·.1) = es.map (·.1) := by
          rw [List.map_set]
          have h9 : (es.map (·.1))[j]? = some key := by simp [h4, h6]
          exact (List.getElem?_eq_some_iff.1 h9).2 ▸ List.set_getElem_self _
        rw [this]; exact hkeys
      · rw [ChangeMaps.heap_setBlock_same hh]
      · refine Al.set (hal.imp_at fun i x e hx he h => ⟨h.1, h.2.move hmv (fun _ h => h) (Where.upto_refl _ _) fun b' hb' => ChangeMaps.heap_setBlock_other hh _ fun e2 => ?_⟩) j ⟨rfl, RepM.move (RepM.plain hxr) hmv (fun _ h => h) (Where.upto_refl _ _) (by rw [fpM_plain hxr.no_own]; simp)⟩
        exact (hsub.2 b' (mem_fpE hx he hb')).2 (by rw [e2]; exact h1)
      · intro m hm
        rcases List.mem_or_eq_of_mem_set hm with hm | rfl
        · exact hbn m hm
        · exact hbn m0 (List.mem_of_getElem? h3)
      · rw [List.map_set]
        have h9 : (ms.map (·.born))[j]? = some m0.born := by simp [h3]
        have h10 : (ms.map (·.born)).set j m1.born = ms.map (·.born) := (List.getElem?_eq_some_iff.1 h9).2 ▸ List.set_getElem_self _
        rw [h10]; exact hnd
      · rw [fpE_set h3 h4 (by rw [hold]; exact fpM_plain hxr.no_own)]
        exact hsub
theorem AX.makeMap {k : Nat} {o : Oper} {K : List Key → List Upd → Prop} {t kt e : TypeId} (ho : o.op = .makeMap t none) (ht : MT C.P t = some (kt, e)) (hd : dstOk o.dst s.nt = true) (h : K [] (.new k (.map kt []) :: dU o.dst (.c (.mp k)))) : AX C k o s K := by
  refine ⟨_, _, fun s1 hag hnt hku => ?_, fun u hu j hj => ?_, h⟩
  · refine (sound_new (k := k) ?_).1
    refine opOk_val (by rw [show (s1.new k (.map kt [])).nt = s1.nt from rfl, hnt]; exact dstOk_spec hd) fun a w L hs => ⟨.map (some w.heap.size), w.alloc (.map #[] 0), L.set k (some w.heap.size) (.map (some w.heap.size)), ?_, ?_, ?_⟩
    · unfold execOp
      simp [ho, run_makeMap, Sem.run_bind]
    · refine hs.new (w' := w.alloc (.map #[] 0)) k hku _ _ rfl rfl ⟨rfl, Nat.le_refl _⟩ (by simp) (fun b hb => heap_alloc_old w _ hb) (some w.heap.size) (fun x hx => by cases hx; simp) ?_
      exact ⟨w.heap.size, [], 0, ⟨by simp [Where.set], by simp [Where.set], ⟨by simp, by simp⟩⟩, heap_alloc_new w _, Al.nil, by simp, by simp, by simp [Subs, fpE]⟩
    · exact ⟨(s1.used_new k _ k).2 (.inl rfl), by simp [Where.set], _, rfl⟩
  · rcases List.mem_cons.1 hu with rfl | hu
    · exact hj.symm
    · exact (given_dU u hu j hj).elim
theorem AX.lenMap {k : Nat} {o : Oper} {K : List Key → List Upd → Prop} {t kt e : TypeId} {y : Operand} {c : Cell} {es : List (Value × Bool × List Cell)} (ho : o.op = .call { callee := .builtin .len, args := #[y], argTypes := #[t] }) (ht : MT C.P t = some (kt, e)) (hy : s.ev y = .c c) (hc : s.mpc kt c = some es) (hd : dstOk o.dst s.nt = true)
    (h : K (opK y ++ mapK c) (dU o.dst (ft (.int .i64 (es.length : Int))))) : AX C k o s K := by
  refine ⟨_, _, fun s1 hag hnt hku => ?_, fun u hu j hj => (given_dU u hu j hj).elim, h⟩
  rw [ups_dU]
  have e1 : s1.ev y = s.ev y := agree_ev hag (by intro x hx; simp [hx])
  have e3 : s1.mpc kt c = s.mpc kt c := by
    cases c with
    | mp j => simp only [St.mpc]; rw [agree_ob hag (by simp [mapK])]
    | im x => cases x <;> first | rfl | (rename_i u; cases u <;> first | rfl | (rename_i p; cases p <;> rfl))
    | _ => rfl
  refine opOk_flat rfl (by rw [hnt]; exact dstOk_spec hd) fun a w L hs => ?_
  have hv := hs.ev y
  rw [e1, hy] at hv
  have htt := MT_spec ht
  unfold execOp
  rcases hs.mpc (by rw [e3]; exact hc) hv with ⟨hm, rfl⟩ | ⟨b, ms, clk, hm, hh, hal, hbn, hnd, hkeys⟩
  · simp [ho, resolve, invoke, builtin, Builtin.len_, hm, Sem.run_bind, run_underlying htt, goInt]
  · have hgo : (getObj b).run C.P w = .ok (.map (List.toArray ms) clk) w := by simp [getObj, Sem.run, hh]
    simp [ho, resolve, invoke, builtin, Builtin.len_, hm, Sem.run_bind, run_underlying htt, goInt, hgo, hal.1]
theorem Sim.mpf (h : Sim C s a w L) {kt : TypeId} {c : Cell} {es : List (Value × Bool × List AV)} (hc : s.mpf kt c = some es) {v : Value} (hv : RepC C.P (okOf C s L) w s.used L v c) : RepA C.P (okOf C s L) w v (.mp kt es) := by
  cases c <;> simp only [St.mpf] at hc <;> try (cases hc; done)
  case mp k =>
    obtain ⟨_, hb, b, rfl⟩ := hv
    split at hc <;> try (cases hc; done)
    rename_i kt' es' hob
    split at hc <;> try (cases hc; done)
    rename_i he
    cases hc
    obtain rfl := beq_t he
    obtain ⟨_, h1⟩ := h.ob k _ hob
    have h1 : RepA C.P (okOf C s L) w (L.hv k) (.mp kt es) := h1
    rw [← hb] at h1
    exact h1
  case im x =>
    cases x with
    | flat u =>
      cases u <;> try (cases hc; done)
      rename_i r
      cases r <;> cases hc
      rw [RepA.flat_eq hv]; exact .mpn
    | mp kt' es' =>
      simp only at hc
      split at hc <;> try (cases hc; done)
      rename_i he
      cases hc
      obtain rfl := beq_t he
      exact hv
    | _ => cases hc
/-- The loop over a map begins. -/
theorem AX.range {k : Nat} {o : Oper} {K : List Key → List Upd → Prop} {t kt e : TypeId} {y : Operand} {c : Cell} {es : List (Value × Bool × List AV)} (ho : o.op = .range t y) (ht : MT C.P t = some (kt, e)) (hy : s.ev y = .c c) (hc : s.mpf kt c = some es) (hd : dstOk o.dst s.nt = true)
    (h : K (opK y ++ mapK c) (.new k (.itf kt es []) :: dU o.dst (.c (.ptr k 0)))) : AX C k o s K := by
  refine ⟨_, _, fun s1 hag hnt hku => ?_, fun u hu j hj => ?_, h⟩
  · refine (sound_new (k := k) ?_).1
    have e1 : s1.ev y = s.ev y := agree_ev hag (by intro x hx; simp [hx])
    have e3 : s1.mpf kt c = s.mpf kt c := by
      cases c with
      | mp j => simp only [St.mpf]; rw [agree_ob hag (by simp [mapK])]
      | im x => cases x <;> first | rfl | (rename_i u; cases u <;> first | rfl | (rename_i p; cases p <;> rfl))
      | _ => rfl
    have main : ∀ (a : Act) (w : World) (L : Where), Sim C s1 a w L → ∃ mo since, (Instr.range t (a.eval y)).run C.P w = .ok (.pointer (some ⟨w.heap.size, 0, none⟩)) (w.alloc (.mapIter mo since #[] since)) ∧ RepA C.P (okOf C s1 L) w (.map mo) (.mp kt es) ∧ ∀ bm, mo = some bm → ∃ ms, w.heap[bm]? = some (.map (List.toArray ms) since) := by
      intro a w L hs
      have hv := hs.ev y
      rw [e1, hy] at hv
      have hm := hs.mpf (by rw [e3]; exact hc) hv
      have htt := MT_spec ht
      have hmm := hm
      rcases hm.isMap (U := s1.used) (L := L) with ⟨hv2, _⟩ | ⟨b, ms, clk, hv2, hok, hh, _⟩
      · rw [hv2] at hmm
        refine ⟨none, 0, ?_, hmm, by simp⟩
        simp [Instr.range, hv2, run_underlying htt, Sem.run_bind, newObj, Sem.run]
      · rw [hv2] at hmm
        have hgo : (getObj b).run C.P w = .ok (.map (List.toArray ms) clk) w := by simp [getObj, Sem.run, hh]
        refine ⟨some b, clk, ?_, hmm, fun bm e => by cases e; exact ⟨ms, hh⟩⟩
        simp [Instr.range, hv2, run_underlying htt, Sem.run_bind, hgo, newObj, Sem.run]
    intro a w ⟨L, hs⟩ next Q hnext
    obtain ⟨mo, since, hrun, hmm, hms⟩ := main a w L hs
    have hsim : Sim C (s1.new k (.itf kt es [])) a (w.alloc (.mapIter mo since #[] since)) (L.set k (some w.heap.size) undef) := by
      refine hs.new (w' := w.alloc (.mapIter mo since #[] since)) k hku _ _ rfl rfl ⟨rfl, Nat.le_refl _⟩ (by simp) (fun b hb => heap_alloc_old w _ hb) (some w.heap.size) (fun x hx => by cases hx; simp) ?_
      refine ⟨w.heap.size, mo, since, [], since, by simp [Where.set], heap_alloc_new w _, ?_, fun _ => rfl, fun bm hbm => ?_⟩
      · refine hmm.move fun b hb hlt => ⟨⟨hb.1, fun j o' hj ho' => ?_⟩, heap_alloc_old w _ hlt⟩
        rw [St.ob_new] at hj
        split at hj
        · rename_i e; subst e; rw [Where.set_has]; intro e2; cases e2; exact absurd hlt (Nat.lt_irrefl _)
        · rename_i e; rw [Where.set_has_ne _ _ _ _ _ (fun e2 => e e2.symm)]; exact hb.2 j o' hj ho'
      · obtain ⟨ms, h2⟩ := hms bm hbm
        exact ⟨ms, since, by rw [heap_alloc_old w _ (Array.getElem?_eq_some_iff.1 h2).1]; exact h2, rfl, rfl, Al.nil⟩
    unfold Oper.wp
    have hex : (execOp a.eval o).run C.P w = .ok (.value (.pointer (some ⟨w.heap.size, 0, none⟩))) (w.alloc (.mapIter mo since #[] since)) := by
      unfold execOp
      simp only [ho, Sem.run_bind, hrun, Result.andThen_ok]
      rfl
    rw [hex]
    exact hnext _ _ ⟨_, hsim.put o.dst (by rw [show (s1.new k (.itf kt es [])).nt = s1.nt from rfl, hnt]; exact dstOk_spec hd) ⟨(s1.used_new k _ k).2 (.inl rfl), w.heap.size, by simp [Where.set], rfl⟩⟩
  · rcases List.mem_cons.1 hu with rfl | hu
    · exact hj.symm
    · exact (given_dU u hu j hj).elim
def keyC : Value → Option (Bool × List Cell)
  | .agg cs => if cs.toList.all Value.oneCell' then some (true, cs.toList.map fl) else none
  | v => if v.oneCell' then some (false, [fl v]) else none
theorem keyC_spec {P : Program} {ok : Nat → Prop} {U : Nat → Prop} {v : Value} {y : Bool × List Cell} (h : keyC v = some y) : RepT1 P ok w U L v y := by
  unfold keyC at h
  split at h
  · rename_i cs
    split at h
    · rename_i hall
      cases h
      exact ⟨cs.toList, by simp, al_flat (fun v hv => List.all_eq_true.1 hall v hv)⟩
    · cases h
  · split at h
    · rename_i h1
      cases h
      exact ⟨_, rfl, RepA.flat h1⟩
    · cases h
theorem AX.entry {k : Nat} {o : Oper} {K : List Key → List Upd → Prop} {kt : TypeId} {r j : Nat} {y : Operand} {es : List (Value × Bool × List AV)} {seen : List Nat} {e : Value × Bool × List AV} {ky : Bool × List Cell} (ho : o.op = .entry y) (hy : s.ev y = .c (.ptr r 0)) (hob : s.ob r = some (.itf kt es seen)) (hl : seen.getLast? = some j) (he : es[j]? = some e) (hky : keyC e.1 = some ky) (hd : dstOk o.dst s.nt = true)
    (h : K (opK y ++ [.h r]) (dU o.dst (.t [ky, (e.2.1, imL e.2.2)]))) : AX C k o s K := by
  refine ⟨_, _, fun s1 hag hnt hku => ?_, fun u hu j hj => (given_dU u hu j hj).elim, h⟩
  rw [ups_dU]
  have e1 : s1.ev y = s.ev y := agree_ev hag (by intro x hx; simp [hx])
  have e4 : s1.ob r = some (.itf kt es seen) := by rw [agree_ob hag (by simp)]; exact hob
  refine opOk_same (by rw [hnt]; exact dstOk_spec hd) fun a w L hs => ?_
  have hv := hs.ev y
  rw [e1, hy] at hv
  obtain ⟨_, b, hb, hv⟩ := hv
  obtain ⟨_, b', mo, since, sn, last, h1, h2, h3, h4, h5⟩ := hs.ob r _ e4
  rw [hb] at h1
  cases h1
  cases mo with
  | none => rw [h4 rfl] at hl; simp at hl
  | some bm =>
    obtain ⟨ms, clk, h6, rfl, rfl, h8⟩ := h5 bm rfl
    rcases h3.isMap (U := s1.used) (L := L) with ⟨h9, _⟩ | ⟨bm', ms', clk', h9, hok, hh, hal, hbn, hnd, hkeys⟩
    · cases h9
    · cases h9
      rw [h6] at hh
      simp only [Option.some.injEq, Go.Obj.map.injEq] at hh
      obtain ⟨hms, _⟩ := hh
      have hms : ms = ms' := by simpa using congrArg Array.toList hms
      subst hms
      obtain ⟨l, rfl⟩ : ∃ l, seen = l ++ [j] := by
        rw [List.getLast?_eq_some_iff] at hl
        exact hl
      obtain ⟨n, hn⟩ : ∃ n, sn[l.length]? = some n := by
        obtain ⟨n, h10, _⟩ := h8.get_right (i := l.length) (b := j) (by simp)
        exact ⟨n, h10⟩
      obtain ⟨m, hm1, hm2⟩ := h8.2 l.length n j hn (by simp)
      have hsn : sn = sn.take l.length ++ [n] := by
        have h11 : sn.length = l.length + 1 := by rw [h8.1]; simp
        have h12 := List.take_succ_eq_append_getElem (l := sn) (i := l.length) (by omega)
        rw [List.take_of_length_le (by omega)] at h12
        rw [(List.getElem?_eq_some_iff.1 hn).2] at h12
        exact h12
      have hfe : (froE es)[j]? = some (e.1, e.2.1, imL e.2.2) := by rw [froE_get, he]; rfl
      have hpush : sn.toArray = (sn.take l.length).toArray.push m.born := by
        apply Array.toList_inj.1
        rw [Array.toList_push, hm2]
        exact hsn
      obtain ⟨hk1, hk2⟩ := hal.2 j m _ hm1 hfe
      have hk1 : m.key = e.1 := hk1
      have hk2 : RepM C.P (okOf C s1 L) w s1.used L m.val (e.2.1, imL e.2.2) := hk2
      have hrun := run_entry_at (P := C.P) w b bm last (sn.take l.length).toArray (List.toArray ms) last m (by rw [h2, hpush]) h6 (by simp; exact List.mem_of_getElem? hm1) (by simpa using hnd)
      refine ⟨.tuple #[m.key, m.val], ?_, [m.key, m.val], rfl, Al.cons (by rw [hk1]; exact keyC_spec hky) (Al.cons ?_ Al.nil)⟩
      · unfold execOp
        simp only [ho, hv, Sem.run_bind, hrun, Result.andThen_ok]
        rfl
      · have := hk2.see
        have e5 : seeL (imL e.2.2) = imL e.2.2 := by rw [seeL_map, imL, List.map_map]; rfl
        rw [e5] at this
        exact this
/-- One step of the loop over a map: whichever entry is left, or the end. -/
theorem W.nextReg {Q : Exit → St → Prop} {id d1 d2 it r : Nat} {kt : TypeId} {es : List (Value × Bool × List AV)} {seen : List Nat} {o1 o2 : Oper} (h1 : o1.op = .next (.tmp it) false) (h1d : o1.dst = some d1) (h1g : o1.guard = none) (h2 : o2.op = .extract (.tmp d1) 0) (h2d : o2.dst = some d2) (h2g : o2.guard = none)
    (hit : s.tv it = .c (.ptr r 0)) (hob : s.ob r = some (.itf kt es seen)) (hd1 : Nat.blt d1 s.nt = true) (hd2 : Nat.blt d2 s.nt = true)
    (hn : ∀ j e, es[j]? = some e → j ∉ seen → Q .normal (((s.putO r (.itf kt es (seen ++ [j]))).put (some d1) (.t [(false, [fl (.bool true)]), (false, [.dead]), (false, [.dead])])).put (some d2) (ft (.bool true))))
    (hov : (∀ j, j < es.length → j ∈ seen) → Q .normal ((s.put (some d1) (.t [(false, [fl (.bool false)])])).put (some d2) (ft (.bool false)))) : W C (.region id #[o1, o2] false) s Q := by
  intro a w ⟨L, hs⟩
  have hd1 := Nat.le_of_ble_eq_true hd1
  have hd2 := Nat.le_of_ble_eq_true hd2
  have hv := hs.tm it
  rw [hit] at hv
  obtain ⟨_, b, hb, hv⟩ := hv
  obtain ⟨_, b', mo, since, sn, last, h3, h4, h5, h6, h7⟩ := hs.ob r _ hob
  rw [hb] at h3
  cases h3
  have evx : ∀ (x : Value) (w' : World), (a.put (some d1) x).eval (.tmp d1) = x := fun x w' => by
    show (a.tmps.setIfInBounds d1 x).getD d1 undef = x
    rw [Array.getD_eq_getD_getElem?, Array.getElem?_setIfInBounds_self_of_lt (by rw [hs.nt]; exact hd1)]; rfl
  -- what is left to do once 'next' is known
  have fin : ∀ (vs : List Value) (bb : Bool) (w' : World) (s' : St) (ys : List (Bool × List Cell)), vs[0]? = some (.bool bb) → (Instr.next (a.eval (.tmp it)) false o1.type).run C.P w = .ok (.tuple vs.toArray) w' → Sim C s' a w' L → s'.nt = s.nt → RepT C.P (okOf C s' L) w' s'.used L (.tuple vs.toArray) (.t ys) → Q .normal ((s'.put (some d1) (.t ys)).put (some d2) (ft (.bool bb))) →
      (Code.region id #[o1, o2] false).wp C.P (fun e a' w' => ∃ s', S C s' a' w' ∧ Q e s') a w := by
    intro vs bb w' s' ys h0 hrun hs' hnt hrep hq
    refine wp_region_list ?_
    refine wpList_plain h1g fun K hK => ?_
    unfold Oper.wp
    have e1 : (execOp a.eval o1).run C.P w = .ok (.value (.tuple vs.toArray)) w' := by
      unfold execOp
      simp only [h1, Sem.run_bind, hrun, Result.andThen_ok]
      rfl
    rw [e1, Oper.upon_value, h1d]
    refine hK _ _ ?_
    refine wpList_plain h2g fun K hK => ?_
    unfold Oper.wp
    have e2 : (execOp (a.put (some d1) (.tuple vs.toArray)).eval o2).run C.P w' = .ok (.value (.bool bb)) w' := by
      unfold execOp
      simp only [h2, evx _ w', Instr.extract, Sem.run_bind, List.getElem?_toArray, h0]
      rfl
    rw [e2, Oper.upon_value, h2d]
    refine hK _ _ ?_
    refine wpList_nil ⟨_, ⟨L, ?_⟩, hq⟩
    have hs1 := hs'.put (some d1) (by intro i hi; cases hi; rw [hnt]; exact hd1) hrep
    exact hs1.put (some d2) (by intro i hi; cases hi; show d2 < s'.nt; rw [hnt]; exact hd2) (x := ft (.bool bb)) (RepA.flat rfl)
  have hev : a.eval (.tmp it) = .pointer (some ⟨b, 0, none⟩) := hv
  cases mo with
  | none =>
    refine fin [.bool false] false w s [(false, [fl (.bool false)])] rfl ?_ hs rfl ⟨_, rfl, Al.cons ⟨_, rfl, RepA.flat rfl⟩ Al.nil⟩ (hov ?_)
    · rw [hev]
      simp [Instr.next, getObj, Sem.run, h4, Sem.run_bind]
    · rcases h5.isMap (U := s.used) (L := L) with ⟨_, rfl⟩ | ⟨_, _, _, h9, _⟩
      · intro j hj; simp at hj
      · cases h9
  | some bm =>
    obtain ⟨ms, clk, h8, rfl, rfl, h9⟩ := h7 bm rfl
    rcases h5.isMap (U := s.used) (L := L) with ⟨h10, _⟩ | ⟨bm', ms', clk', h10, hok, hh, hal, hbn, hnd, hkeys⟩
    · cases h10
    cases h10
    have hmm := hh
    rw [h8] at hh
    simp only [Option.some.injEq, Go.Obj.map.injEq] at hh
    obtain ⟨hms, hclk⟩ := hh
    have hms : ms = ms' := by simpa using congrArg Array.toList hms
    subst hms; subst hclk
    have hlen : ms.length = es.length := by have := hal.1; rw [froE_map] at this; simpa using this
    rcases run_next_at (P := C.P) w o1.type b bm last last (List.toArray sn) (List.toArray ms) last h4 h8 (by simpa using hbn) (Nat.le_refl _) with ⟨hz, hrun⟩ | ⟨e, he, w1, hw1, hrun⟩
    · refine fin [.bool false] false w s [(false, [fl (.bool false)])] rfl (by rw [hev]; exact hrun) hs rfl ⟨_, rfl, Al.cons ⟨_, rfl, RepA.flat rfl⟩ Al.nil⟩ (hov fun j hj => ?_)
      obtain ⟨m, hm⟩ : ∃ m, ms[j]? = some m := ⟨ms[j]'(by omega), List.getElem?_eq_getElem _⟩
      have hin : m.born ∈ sn := by
        refine Classical.byContradiction fun hni => ?_
        have : m ∈ (leftOf (List.toArray ms) (List.toArray sn)) := by
          unfold leftOf
          simp [List.mem_of_getElem? hm, hni]
        have h11 := Array.eq_empty_of_size_eq_zero hz
        rw [h11] at this
        simp at this
      obtain ⟨i, hi⟩ := List.getElem?_of_mem hin
      obtain ⟨j', hj', m', hm', hbb⟩ := h9.get_left hi
      have hjj : j' = j := by
        have a1 : (ms.map (·.born))[j']? = some m.born := by simp [hm', hbb]
        have a2 : (ms.map (·.born))[j]? = some m.born := by simp [hm]
        obtain ⟨b1, b2⟩ := List.getElem?_eq_some_iff.1 a1
        obtain ⟨b3, b4⟩ := List.getElem?_eq_some_iff.1 a2
        exact (List.getElem_inj hnd).1 (b2.trans b4.symm)
      rw [← hjj]
      exact List.mem_of_getElem? hj'
    · have hel : e ∈ ms ∧ e.born ∉ sn := by
        unfold leftOf at he
        simpa using he
      obtain ⟨j, hj⟩ := List.getElem?_of_mem hel.1
      obtain ⟨x, hx, hkx, _⟩ := hal.get_left hj
      rw [froE_get] at hx
      obtain ⟨y, hy, rfl⟩ := Option.map_eq_some_iff.1 hx
      have hjs : j ∉ seen := fun hjs => by
        obtain ⟨i, hi⟩ := List.getElem?_of_mem hjs
        obtain ⟨n, hn1, m, hm, hmn⟩ := h9.get_right hi
        rw [hj] at hm
        cases hm
        exact hel.2 (by rw [hmn]; exact List.mem_of_getElem? hn1)
      have hs1 : Sim C s a w1 L := by
        rcases hw1 with rfl | rfl
        · exact hs
        · exact hs.draw _ (Nat.le_succ _)
      have hh1 : w1.heap = w.heap := by rcases hw1 with rfl | rfl <;> rfl
      have hset : ∀ x, x ≠ b → (setBlock w1 b (.mapIter (some bm) last ((List.toArray sn).push e.born) last)).heap[x]? = w1.heap[x]? := fun x hx => by
        simp only [setBlock, Array.getElem?_setIfInBounds]
        rw [if_neg (fun e => hx e.symm)]
      have hs2 : Sim C (s.putO r (.itf kt es (seen ++ [j]))) a (setBlock w1 b (.mapIter (some bm) last ((List.toArray sn).push e.born) last)) L := by
        refine hs1.write hob rfl rfl (.inl hb) rfl rfl ⟨rfl, Nat.le_refl _⟩ (by simp [setBlock]) hset fun hmv => ?_
        refine ⟨b, some bm, last, sn ++ [e.born], last, hb, ?_, ?_, by simp, fun bm' hbm' => ?_⟩
        · have hlt : b < w1.heap.size := by rw [hh1]; exact (Array.getElem?_eq_some_iff.1 h4).1
          simp only [setBlock]
          rw [Array.getElem?_setIfInBounds_self_of_lt hlt]
          simp
        · have h5' : RepA C.P (okOf C s L) w1 (.map (some bm)) (.mp kt es) := h5.move fun x hx _ => ⟨hx, by rw [hh1]⟩
          exact h5'.move hmv
        · cases hbm'
          refine ⟨ms, last, ?_, rfl, rfl, h9.append (Al.cons ⟨e, hj, rfl⟩ Al.nil)⟩
          rw [hset bm (fun e1 => ?_), hh1]
          · exact h8
          · subst e1
            exact hok.2 r _ hob rfl (.inl hb)
      refine fin [.bool true, e.key, e.val] true _ _ [(false, [fl (.bool true)]), (false, [.dead]), (false, [.dead])] rfl (by rw [hev]; exact hrun) hs2 rfl ⟨_, rfl, Al.cons ⟨_, rfl, RepA.flat rfl⟩ (Al.cons ⟨_, rfl, trivial⟩ (Al.cons ⟨_, rfl, trivial⟩ Al.nil))⟩ (hn j y hy hjs)
end
end Go.Exe
