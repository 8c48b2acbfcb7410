import Derived.Test.YtfjelgjfbjjopaaAmOps11
import Derived.MapKept
/-
  AM, part 15b: maps.
-/
set_option linter.unusedVariables false
set_option linter.unusedSectionVars false
set_option linter.unusedSimpArgs false
namespace Go.AM
open Go Go.RowKit
variable [Glob]

section
variable {P : Program} {A : Nat → Nat → Prop} {μ : Nat → Option Place} {σ σ' : Store} {w : World} {o : Oper} {a : Act} {v : V} {n n' : Nat} {e : AX → V} {own : Nat → Nat → Prop}

/-- What a type's description says of keys. -/
def kindCk : TypeDesc → Option Ck
  | .bool => some .bool
  | .int _ => some .int
  | .string => some .str
  | _ => none

theorem keyTy_spec {kt : TypeId} {q : Ck} (h : keyTy P kt = some q) : ∃ kd, P.underlying kt = some kd ∧ kindCk kd = some q := by
  unfold keyTy at h
  cases hu : P.underlying kt with
  | none => rw [hu] at h; cases h
  | some kd =>
    rw [hu] at h
    refine ⟨kd, rfl, ?_⟩
    cases kd <;> simp [kindCk] at h ⊢ <;> exact h

theorem same_key {kd : TypeDesc} {q : Ck} (hk : kindCk kd = some q) {d d' : D} {u u' : Value} (h : DRel own w d u) (h' : DRel own w d' u') {b : Bool} (he : eqK q d d' = some b) : Instr.sameNow kd u u' = some b := by
  cases kd <;> simp only [kindCk, Option.some.injEq, reduceCtorEq] at hk <;> subst hk
  · obtain ⟨x, y, rfl, rfl, rfl⟩ := eqK_bool he
    cases h; cases h'; rfl
  · obtain ⟨k, x, y, rfl, rfl, rfl⟩ := eqK_int he
    cases h; cases h'; simp [Instr.sameNow]
  · obtain ⟨x, y, rfl, rfl, rfl⟩ := eqK_str he
    cases h; cases h'
    simp only [Instr.sameNow, Option.some.injEq]
    rw [Bool.eq_iff_iff, MapKept.bytes_beq]
    simp only [ByteArray.toList_eq, beq_iff_eq, Array.toList_inj]
    constructor
    · rintro rfl; rfl
    · intro h; cases x; cases y; simp at h; subst h; rfl

/-- Keys that are the same: their values are the same, bit by bit. -/
theorem same_bits {q : Ck} {d d' : D} {u u' : Value} (h : DRel own w d u) (h' : DRel own w d' u') (he : eqK q d d' = some true) (m : Nat) : Instr.sameBits m u' u = true := by
  cases q
  · obtain ⟨x, y, rfl, rfl, e⟩ := eqK_bool he
    cases h; cases h'
    simp at e
    subst e; cases m <;> simp [Instr.sameBits]
  · obtain ⟨k, x, y, rfl, rfl, e⟩ := eqK_int he
    cases h; cases h'
    simp at e
    subst e; cases m <;> simp [Instr.sameBits]
  · obtain ⟨x, y, rfl, rfl, e⟩ := eqK_str he
    cases h; cases h'
    have : x = y := by
      simp only [ByteArray.toList_eq, Bool.true_eq, beq_iff_eq, Array.toList_inj] at e
      cases x; cases y; simp at e; subst e; rfl
    subst this; cases m <;> simp [Instr.sameBits, MapKept.bytes_beq]

theorem run_check_ck {kt : TypeId} {kd : TypeDesc} {q : Ck} (hu : P.underlying kt = some kd) (hk : kindCk kd = some q) (u : Value) (em : Bool) (m : Nat) : (Instr.checkKey em (m + 1) kt u).run P w = .ok () w := by
  unfold Instr.checkKey
  simp only [Sem.run_bind, run_under hu, Result.andThen]
  cases kd <;> simp [kindCk] at hk <;> simp

/-- The entries of a map are those of a list. -/
def EntRel (own : Nat → Nat → Prop) (w : World) (es : List (D × D)) (c : List MapEntry) : Prop :=
  es.length = c.length ∧ ∀ (i : Nat) p e, es[i]? = some p → c[i]? = some e → DRel own w p.1 e.key ∧ DRel own w p.2 e.val

theorem find_now {kd : TypeDesc} {q : Ck} (hk : kindCk kd = some q) {k : D} {u : Value} (h : DRel own w k u) : ∀ {es : List (D × D)} {c : List MapEntry} {i : Nat} {r : Option (Nat × D)}, EntRel own w es c → findD q k es i = some r →
    ∃ r', Instr.findNow kd u c i = some r' ∧ match r, r' with
      | some (j, d), some (j', x) => j = j' ∧ DRel own w d x ∧ ∃ t, j = i + t ∧ ∃ p e, es[t]? = some p ∧ c[t]? = some e ∧ eqK q k p.1 = some true
      | none, none => True
      | _, _ => False
  | [], [], i, r, _, hr => by
    simp only [findD, Option.some.injEq] at hr
    subst hr
    exact ⟨none, rfl, trivial⟩
  | p :: es, e :: c, i, r, he, hr => by
    simp only [findD] at hr
    obtain ⟨h1, h2⟩ := he.2 0 p e rfl rfl
    cases hq : eqK q k p.1 with
    | none => rw [hq] at hr; cases hr
    | some b =>
      rw [hq] at hr
      have hs := same_key hk h h1 hq
      simp only [Instr.findNow, hs]
      cases b with
      | true =>
        simp only [Option.some.injEq] at hr
        subst hr
        exact ⟨_, rfl, rfl, h2, 0, rfl, p, e, rfl, rfl, hq⟩
      | false =>
        obtain ⟨r', h3, h4⟩ := find_now hk h (es := es) (c := c) ⟨by simpa using he.1, fun j p e hp he' => he.2 (j + 1) p e (by simpa using hp) (by simpa using he')⟩ hr
        refine ⟨r', h3, ?_⟩
        cases r with
        | none => cases r' with
          | none => trivial
          | some y => exact h4
        | some x =>
          cases r' with
          | none => exact h4
          | some y =>
            obtain ⟨g1, g2, t, g3, p', e', g4, g5, g6⟩ := h4
            exact ⟨g1, g2, t + 1, by omega, p', e', by simpa using g4, by simpa using g5, g6⟩
  | [], _ :: _, _, _, he, _ => by have := he.1; simp at this
  | _ :: _, [], _, _, he, _ => by have := he.1; simp at this

theorem map_block {id b : Nat} {k : Option Nat} {es : List (D × D)} (hs : StoreSim A μ σ w) (hid : σ id = some (.mp es)) (hp : μ id = some (.at b k)) :
    ∃ c clk, w.heap[b]? = some (.map c clk) ∧ EntRel (full A μ σ) w es c.toList ∧ k = none := by
  obtain ⟨b', c, clk, h1, h2, h3, h4⟩ := hs.blks id _ hid
  rw [hp] at h1
  cases h1
  exact ⟨c, clk, h2, ⟨by simpa using h3, fun i p e hp he => h4 i p e hp (by simpa using he)⟩, rfl⟩

theorem zero_val {t : TypeId} {z : D} (h : zeroV P t z = true) : ∃ i zv, P.info? t = some i ∧ i.zero = some zv ∧ DRel own w z zv := by
  unfold zeroV at h
  cases hi : P.info? t with
  | none => rw [hi] at h; cases h
  | some i =>
    rw [hi] at h
    simp only at h
    cases hz : i.zero with
    | none => rw [hz] at h; cases z <;> simp at h
    | some v =>
      rw [hz] at h
      refine ⟨i, v, rfl, hz, ?_⟩
      split at h
      · rename_i cs ds hv
        cases hv
        obtain ⟨h1, h2⟩ := relL_sound (own := own) (w := w) h
        exact .agg _ _ (by simpa using h1) fun j d v hd hv => h2 j d v hd (by simpa using hv)
      · rename_i hv _
        cases hv
        exact relC_sound h
      · cases h

theorem ok_mkmap {t : TypeId} (ho : o.op = .makeMap t none) (hs : StoreSim A μ σ w) (hn : μ n = none) : OpGood P A μ σ w o a (.mref n) (upd σ n (some (.mp []))) n (n + 1) := by
  have g := Guar.alloc (blk := .mp []) (k := none) (o := .map #[] 0) hs hn
  have hst := hs.alloc hn (.mp []) none (.map #[] 0) ⟨w.heap.size, #[], 0, upd_same _ _ _, (MapKept.heap_alloc w _).1, rfl, fun i p e h => by simp at h⟩
  refine ⟨_, .map (some w.heap.size), _, _, ?_, .inl rfl, .mref n _ none (upd_same _ _ _), hst, g, fun id h => ?_⟩
  · simp [execOp, ho, Instr.makeMap]
  · by_cases e : id = n
    · subst e; exact .inr ⟨Nat.le_refl _, Nat.lt_succ_self _⟩
    · rw [upd_ne _ _ e] at h; exact .inl h

theorem ok_mget {q : Ck} {z : D} {ok : Bool} {x i : AX} {x' i' : Operand} {t kt et : TypeId} (ho : o.op = .lookup t x' i' ok) (ht : P.underlying t = some (.map kt et)) (hkt : keyTy P kt = some q)
    (hz : zeroV P et z = true) (hx : VRel μ (full A μ σ) w (e x) (a.eval x')) (hi : VRel μ (full A μ σ) w (e i) (a.eval i')) (hs : StoreSim A μ σ w) {id : Nat} {d : D} {es : List (D × D)} {r : Option (Nat × D)}
    (hex : e x = .mref id) (hei : e i = .d d) (hid : σ id = some (.mp es)) (hr : findD q d es 0 = some r) :
    OpGood P A μ σ w o a (.d (match r with | some (_, y) => if ok then .tup [y, .bool true] else y | none => if ok then .tup [z, .bool false] else z)) σ n n := by
  rw [hex] at hx; rw [hei] at hi
  generalize hax : a.eval x' = u at hx
  generalize hai : a.eval i' = v at hi
  cases hx with
  | mref _ b k0 hp =>
    cases hi with
    | d _ _ hd =>
      obtain ⟨c, clk, hb, he, rfl⟩ := map_block hs hid hp
      obtain ⟨kd, hu, hkd⟩ := keyTy_spec hkt
      obtain ⟨r', h1, h2⟩ := find_now hkd hd he hr
      have hf : (Instr.findKey kt v c.toList).run P w = .ok r' w := MapKept.run_findKey hu h1
      obtain ⟨zi, zv, hzi, hz1, hzd⟩ := zero_val (own := full A μ σ) (w := w) hz
      cases r with
      | none =>
        cases r' with
        | some y => exact h2.elim
        | none =>
          cases ok with
          | true =>
            refine .val hs (cv := .tuple #[zv, .bool false]) ?_ (.d _ _ (.tup _ _ rfl fun j d v hd hv => ?_))
            · simp [execOp, ho, hax, hai, Instr.lookup, run_under ht, MapKept.run_getObj_map hb, run_check_ck hu hkd, hf, run_zeroValue hzi hz1, Result.andThen]
            · match j with
              | 0 => simp at hd hv; subst hd; subst hv; exact hzd
              | 1 => simp at hd hv; subst hd; subst hv; exact .bool _
              | j + 2 => simp at hd
          | false =>
            refine .val hs (cv := zv) ?_ (.d _ _ hzd)
            simp [execOp, ho, hax, hai, Instr.lookup, run_under ht, MapKept.run_getObj_map hb, run_check_ck hu hkd, hf, run_zeroValue hzi hz1, Result.andThen]
      | some y =>
        cases r' with
        | none => exact h2.elim
        | some y' =>
          obtain ⟨_, hy, _⟩ := h2
          cases ok with
          | true =>
            refine .val hs (cv := .tuple #[y'.2, .bool true]) ?_ (.d _ _ (.tup _ _ rfl fun j d v hd hv => ?_))
            · simp [execOp, ho, hax, hai, Instr.lookup, run_under ht, MapKept.run_getObj_map hb, run_check_ck hu hkd, hf, Result.andThen]
            · match j with
              | 0 => simp at hd hv; subst hd; subst hv; exact hy
              | 1 => simp at hd hv; subst hd; subst hv; exact .bool _
              | j + 2 => simp at hd
          | false =>
            refine .val hs (cv := y'.2) ?_ (.d _ _ hy)
            simp [execOp, ho, hax, hai, Instr.lookup, run_under ht, MapKept.run_getObj_map hb, run_check_ck hu hkd, hf, Result.andThen]

/-- A map with other entries. -/
theorem map_write (hs : StoreSim A μ σ w) {id b : Nat} {es es' : List (D × D)} {c c' : Array MapEntry} {clk clk' : Nat} (hid : σ id = some (.mp es)) (hp : μ id = some (.at b none)) (hb : w.heap[b]? = some (.map c clk)) (hr : EntRel (full A μ σ) w es' c'.toList) :
    Guar μ σ w μ (upd σ id (some (.mp es'))) { w with heap := w.heap.setIfInBounds b (.map c' clk') } ∧ StoreSim A μ (upd σ id (some (.mp es'))) { w with heap := w.heap.setIfInBounds b (.map c' clk') } := by
  obtain ⟨hset, hoth⟩ := MapKept.heap_set (o' := .map c' clk') hb
  have g : Guar μ σ w μ (upd σ id (some (.mp es'))) { w with heap := w.heap.setIfInBounds b (.map c' clk') } := by
    refine ⟨rfl, rfl, rfl, by simp, fun b' hb' hn => hoth b' fun e => hn (by subst e; exact ⟨id, _, none, hid, hp⟩), fun b' c0 ty fr hc0 => ?_, fun b' o' ho' => ?_, fun b' ho' => ?_, fun _ _ h => h⟩
    · have hne : b' ≠ b := by rintro rfl; rw [hb] at hc0; cases hc0
      exact ⟨c0, by rw [hoth b' hne]; exact hc0, rfl, fun _ _ => rfl⟩
    · obtain ⟨j, bl, h1, h2⟩ := ho'
      by_cases e : j = id
      · subst e
        rw [upd_same] at h1
        cases h1
        exact .inl ⟨j, _, hid, by rw [hp] at h2 ⊢; exact h2⟩
      · rw [upd_ne _ _ e] at h1; exact .inl ⟨j, bl, h1, h2⟩
    · obtain ⟨j, bl, k', h1, h2⟩ := ho'
      by_cases e : j = id
      · subst e; exact .inl ⟨j, _, k', hid, h2⟩
      · rw [upd_ne _ _ e] at h1; exact .inl ⟨j, bl, k', h1, h2⟩
  refine ⟨g, hs.update g id (fun j x hj h => by rwa [upd_ne _ _ hj] at h) (fun _ _ => rfl) (fun x hx => ?_) (fun j x b' k' hj hx hbj => ?_) (fun b' k' x hx hq => ?_)⟩
  · rw [upd_same] at hx
    cases hx
    exact ⟨b, c', clk', hp, hset, by simpa using hr.1, fun i p e hp' he => by
      obtain ⟨h1, h2⟩ := hr.2 i p e hp' (by simpa using he)
      exact ⟨g.keepD hs.alt h1, g.keepD hs.alt h2⟩⟩
  · rw [upd_ne _ _ hj] at hx
    exact hoth b' fun e => by subst e; exact hj (hs.inj j id x _ b' k' none hx hid hbj hp)
  · refine ⟨hs.amb id _ b' k' hid hq, fun j x' k'' hj hx' hq' => ?_⟩
    rw [upd_ne _ _ hj] at hx'
    exact hj (hs.inj j id x' _ b' k'' k' hx' hid hq' hq)

theorem ok_mset {q : Ck} {x i u : AX} {x' i' u' : Operand} {t kt et : TypeId} (ho : o.op = .mapUpdate t x' i' u') (ht : P.underlying t = some (.map kt et)) (hkt : keyTy P kt = some q)
    (hx : VRel μ (full A μ σ) w (e x) (a.eval x')) (hi : VRel μ (full A μ σ) w (e i) (a.eval i')) (hu : VRel μ (full A μ σ) w (e u) (a.eval u')) (hs : StoreSim A μ σ w) {id : Nat} {d y : D} {es : List (D × D)} {r : Option (Nat × D)}
    (hex : e x = .mref id) (hei : e i = .d d) (heu : e u = .d y) (hid : σ id = some (.mp es)) (hr : findD q d es 0 = some r) :
    OpGood P A μ σ w o a V.undef (upd σ id (some (.mp (match r with | some (j, _) => es.set j (d, y) | none => es ++ [(d, y)])))) n n := by
  rw [hex] at hx; rw [hei] at hi; rw [heu] at hu
  generalize hax : a.eval x' = vx at hx
  generalize hai : a.eval i' = vi at hi
  generalize hau : a.eval u' = vu at hu
  cases hx with
  | mref _ b k0 hp =>
    cases hi with
    | d _ _ hd =>
      cases hu with
      | d _ _ hy =>
        obtain ⟨c, clk, hb, he, rfl⟩ := map_block hs hid hp
        obtain ⟨kd, hku, hkd⟩ := keyTy_spec hkt
        obtain ⟨r', h1, h2⟩ := find_now hkd hd he hr
        have hf : (Instr.findKey kt vi c.toList).run P w = .ok r' w := MapKept.run_findKey hku h1
        cases r with
        | none =>
          cases r' with
          | some z => exact h2.elim
          | none =>
            obtain ⟨g, hst⟩ := map_write (es' := es ++ [(d, y)]) (c' := c.push { key := vi, val := vu, born := clk }) (clk' := clk + 1) hs hid hp hb ⟨by simp [he.1], fun j p e' hp' he' => by
              simp only [Array.toList_push] at he'
              have hl := he.1
              by_cases hj : j < es.length
              · rw [List.getElem?_append_left hj] at hp'
                rw [List.getElem?_append_left (by omega)] at he'
                exact he.2 j p e' hp' he'
              · rw [List.getElem?_append_right (by omega)] at hp'
                rw [List.getElem?_append_right (by omega), ← hl] at he'
                cases hjj : j - es.length with
                | zero => rw [hjj] at hp' he'; simp at hp' he'; subst hp'; subst he'; exact ⟨hd, hy⟩
                | succ m => rw [hjj] at hp'; simp at hp'⟩
            refine ⟨_, Go.undef, _, μ, ?_, .inr ⟨rfl, rfl⟩, .d _ _ (.undef _), hst, g, fun id h => .inl h⟩
            simp [execOp, ho, hax, hai, hau, Instr.mapUpdate, run_under ht, MapKept.run_getObj_map hb, run_check_ck hku hkd, hf, MapKept.run_setObj_map _ hb, Result.andThen]
        | some z =>
          cases r' with
          | none => exact h2.elim
          | some z' =>
            obtain ⟨j, zd⟩ := z
            obtain ⟨j', zx⟩ := z'
            obtain ⟨rfl, _, tt, htt, p0, e0, hp0, he0, hq0⟩ := h2
            have htj : tt = j := by omega
            subst htj
            obtain ⟨hk0, _⟩ := he.2 tt p0 e0 hp0 he0
            have hbits : Instr.sameBits 10000 e0.key vi = true := same_bits hd hk0 hq0 10000
            have he0' : c[tt]? = some e0 := by simpa using he0
            obtain ⟨g, hst⟩ := map_write (es' := es.set tt (d, y)) (c' := c.modify tt fun e => { e with key := vi, val := vu }) (clk' := clk) hs hid hp hb ⟨by simp [he.1], fun m p e' hp' he' => by
              have hl := he.1
              rw [Array.getElem?_toList, Array.getElem?_modify] at he'
              rw [List.getElem?_set] at hp'
              by_cases hm : tt = m
              · subst hm
                rw [if_pos rfl] at hp' he'
                have htl : tt < es.length := (List.getElem?_eq_some_iff.1 hp0).1
                rw [if_pos htl] at hp'
                rw [he0'] at he'
                simp at hp' he'
                subst hp'; subst he'
                exact ⟨hd, hy⟩
              · rw [if_neg hm] at hp' he'
                exact he.2 m p e' hp' (by simpa using he')⟩
            refine ⟨_, Go.undef, _, μ, ?_, .inr ⟨rfl, rfl⟩, .d _ _ (.undef _), hst, g, fun id h => .inl h⟩
            simp [execOp, ho, hax, hai, hau, Instr.mapUpdate, run_under ht, MapKept.run_getObj_map hb, run_check_ck hku hkd, hf, MapKept.run_setObj_map _ hb, Result.andThen, he0', Instr.keyThatStays, hbits]

theorem ok_mlen {x : AX} {c : Call} (ho : o.op = .call c) (hb : c.callee = .builtin .len) (hsz2 : c.argTypes.size = 1) (hc : chkXs [x] c.args.toList = true)
    (hu : ∃ kt et, (c.argTypes[0]?).bind P.underlying = some (.map kt et)) (he : EvOk μ (full A μ σ) w e a) (hs : StoreSim A μ σ w) {id : Nat} {es : List (D × D)} (hx : e x = .mref id) (hid : σ id = some (.mp es)) (hle : es.length ≤ maxLen) :
    OpGood P A μ σ w o a (.d (.int .i64 es.length)) σ n n := by
  obtain ⟨y, hy, hxy⟩ := args1 hc
  obtain ⟨t, ht⟩ := typ1 hsz2
  obtain ⟨kt, et, hu⟩ := hu
  rw [ht] at hu
  simp at hu
  have hv := he x y hxy
  rw [hx] at hv
  generalize hay : a.eval y = u at hv
  cases hv with
  | mref _ b k0 hp =>
    obtain ⟨cc, clk, hb', hr, rfl⟩ := map_block hs hid hp
    have hl : cc.size = es.length := by simpa using hr.1.symm
    exact .val hs (cv := .int .i64 es.length) (by simp [execOp, ho, resolve, hb, hy, hay, ht, invoke, builtin, Builtin.len_, run_under hu, goInt, MapKept.run_getObj_map hb', hl, Result.andThen]) (.d _ _ (.int _ _ (inR_len hle)))

end
end Go.AM
