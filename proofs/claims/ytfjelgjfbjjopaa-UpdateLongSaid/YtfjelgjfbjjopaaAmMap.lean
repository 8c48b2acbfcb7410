import Derived.Test.YtfjelgjfbjjopaaAmOps11
import Derived.MapKept
set_option linter.unusedVariables false
set_option linter.unusedSectionVars false
set_option linter.unusedSimpArgs false
namespace Go.AM
open Go Go.RowKit
variable [Glob]
section
variable {P : Program} {A : Nat → Nat → Prop} {μ : Nat → Option aJ} {σ σ' : au} {w : World} {o : Oper} {a : Act} {v : V} {n n' : Nat} {e : AX → V} {own : Nat → Nat → Prop}
def fT : TypeDesc → Option Ck
  | .bool => some .bool
  | .int _ => some .int
  | .string => some .str
  | _ => none
theorem mP {kt : TypeId} {q : Ck} (h : dX P kt = some (.one q)) : ∃ kd, P.underlying kt = some kd ∧ fT kd = some q := by
  unfold dX at h
  cases hu : P.underlying kt with
  | none => rw [hu] at h; cases h
  | some kd =>
    rw [hu] at h
    refine ⟨kd, rfl, ?_⟩
    cases kd <;> simp [fT] at h ⊢ <;> exact h
theorem kE {kt : TypeId} {ks : List Ck} (h : dX P kt = some (.st ks)) : bK P 2 kt = true ∧ ks = cq P 2 kt ∧ ((∃ fs, P.underlying kt = some (.struct fs)) ∨ ∃ n e, P.underlying kt = some (.array n e)) := by
  unfold dX at h
  cases hu : P.underlying kt with
  | none => rw [hu] at h; cases h
  | some kd =>
    rw [hu] at h
    cases kd <;> simp at h
    · exact ⟨h.1, h.2.symm, .inr ⟨_, _, rfl⟩⟩
    · exact ⟨h.1, h.2.symm, .inl ⟨_, rfl⟩⟩
theorem p6 {kd : TypeDesc} {q : Ck} (hk : fT kd = some q) {d d' : D} {u u' : Value} (h : DRel own w d u) (h' : DRel own w d' u') {b : Bool} (he : cV q d d' = some b) : Instr.sameNow kd u u' = some b := by
  cases kd <;> simp only [fT, Option.some.injEq, reduceCtorEq] at hk <;> subst hk
  · obtain ⟨x, y, rfl, rfl, rfl⟩ := km he
    cases h; cases h'; rfl
  · obtain ⟨k, x, y, rfl, rfl, rfl⟩ := kn he
    cases h; cases h'; simp [Instr.sameNow]
  · obtain ⟨x, y, rfl, rfl, rfl⟩ := ko he
    cases h; cases h'
    simp only [Instr.sameNow, Option.some.injEq]
    rw [Bool.eq_iff_iff, MapKept.bytes_beq]
    simp only [ByteArray.toList_eq, beq_iff_eq, Array.toList_inj]
    constructor
    · rintro rfl; rfl
    · intro h; cases x; cases y; simp at h; subst h; rfl
theorem mQ {q : Ck} {d d' : D} {u u' : Value} (h : DRel own w d u) (h' : DRel own w d' u') (he : cV q d d' = some true) (m : Nat) : Instr.sameBits m u' u = true := by
  cases q
  · obtain ⟨x, y, rfl, rfl, e⟩ := km he
    cases h; cases h'
    simp at e
    subst e; cases m <;> simp [Instr.sameBits]
  · obtain ⟨k, x, y, rfl, rfl, e⟩ := kn he
    cases h; cases h'
    simp at e
    subst e; cases m <;> simp [Instr.sameBits]
  · obtain ⟨x, y, rfl, rfl, e⟩ := ko he
    cases h; cases h'
    have : x = y := by
      simp only [ByteArray.toList_eq, Bool.true_eq, beq_iff_eq, Array.toList_inj] at e
      cases x; cases y; simp at e; subst e; rfl
    subst this; cases m <;> simp [Instr.sameBits, MapKept.bytes_beq]
theorem p7 {kt : TypeId} {kd : TypeDesc} {q : Ck} (hu : P.underlying kt = some kd) (hk : fT kd = some q) (u : Value) (em : Bool) (m : Nat) : (Instr.checkKey em (m + 1) kt u).run P w = .ok () w := by
  unfold Instr.checkKey
  simp only [Sem.run_bind, bf hu, Result.andThen]
  cases kd <;> simp [fT] at hk <;> simp
def iw (own : Nat → Nat → Prop) (w : World) (es : List (D × D)) (c : List MapEntry) : Prop :=
  es.length = c.length ∧ ∀ (i : Nat) p e, es[i]? = some p → c[i]? = some e → DRel own w p.1 e.key ∧ DRel own w p.2 e.val
theorem mR {kd : TypeDesc} {q : Ck} (hk : fT kd = some q) {k : D} {u : Value} (h : DRel own w k u) : ∀ {es : List (D × D)} {c : List MapEntry} {i : Nat} {r : Option (Nat × D)}, iw own w es c → dW (.one q) k es i = some r →
    ∃ r', Instr.findNow kd u c i = some r' ∧ match r, r' with
      | some (j, d), some (j', x) => j = j' ∧ DRel own w d x ∧ ∃ t, j = i + t ∧ ∃ p e, es[t]? = some p ∧ c[t]? = some e ∧ (MK.one q).eq k p.1 = some true
      | none, none => True
      | _, _ => False
  | [], [], i, r, _, hr => by
    simp only [dW, Option.some.injEq] at hr
    subst hr
    exact ⟨none, rfl, trivial⟩
  | p :: es, e :: c, i, r, he, hr => by
    simp only [dW, MK.eq] at hr
    obtain ⟨h1, h2⟩ := he.2 0 p e rfl rfl
    cases hq : cV q k p.1 with
    | none => rw [hq] at hr; cases hr
    | some b =>
      rw [hq] at hr
      have hs := p6 hk h h1 hq
      simp only [Instr.findNow, hs]
      cases b with
      | true =>
        simp only [Option.some.injEq] at hr
        subst hr
        exact ⟨_, rfl, rfl, h2, 0, rfl, p, e, rfl, rfl, hq⟩
      | false =>
        obtain ⟨r', h3, h4⟩ := mR hk h (es := es) (c := c) ⟨by simpa using he.1, fun j p e hp he' => he.2 (j + 1) p e (by simpa using hp) (by simpa using he')⟩ hr
        refine ⟨r', h3, ?_⟩
        cases r with
        | none => cases r' with
          | none => trivial
          | some y => exact h4
        | some x =>
          cases r' with
          | none => exact h4
          | some y =>
            obtain ⟨g1, g2, t, g3, p', e', g4, g5, g6⟩ := h4
            exact ⟨g1, g2, t + 1, by omega, p', e', by simpa using g4, by simpa using g5, g6⟩
  | [], _ :: _, _, _, he, _ => by have := he.1; simp at this
  | _ :: _, [], _, _, he, _ => by have := he.1; simp at this
theorem mS {em : Bool} {m : Nat} (hsc : ∀ t v, bK P 1 t = true → (Instr.checkKey em m t v).run P w = .ok () w) (us : List Value) : ∀ (fs : List Field) (off : Nat), e7 P (bK P 1) fs off = true → cY P fs off ≤ us.length →
    (forIn fs PUnit.unit (fun f _ => if f.name = "_" then pure (ForInStep.yield PUnit.unit) else do
      let x ← part f.type us.toArray f.offset
      (fun _ => ForInStep.yield PUnit.unit) <$> Instr.checkKey em m f.type x) : Sem PUnit).run P w = .ok PUnit.unit w
  | [], off, _, _ => by simp
  | f :: fs, off, hf, he => by
    simp only [e7, Bool.and_eq_true, bne_iff_ne, beq_iff_eq] at hf
    obtain ⟨⟨⟨hn, hoff⟩, hok⟩, hrest⟩ := hf
    simp only [cY] at he
    have hend : ∀ (fs : List Field) (o : Nat), o ≤ cY P fs o := by
      intro fs
      induction fs with
      | nil => intro o; simp [cY]
      | cons g gs ihg => intro o; simp only [cY]; have := ihg (o + P.cellsOf g.type); omega
    have hle : off + P.cellsOf f.type ≤ us.length := by have := hend fs (off + P.cellsOf f.type); omega
    obtain ⟨p, hp1, hp2⟩ := gB (w := w) hok us off hle
    have ih := mS hsc us fs (off + P.cellsOf f.type) hrest he
    simp only [List.forIn_cons, Sem.run_bind, hn, if_false, hoff, hp1, Result.andThen_ok]
    simp [hsc f.type p hok]
    exact ih
theorem mT {t : TypeId} (h : bK P 1 t = true) : ∃ kd, P.underlying t = some kd ∧ ((∃ k, kd = .int k) ∨ kd = .bool ∨ kd = .string) := by
  unfold bK at h
  cases hu : P.underlying t with
  | none => rw [hu] at h; cases h
  | some kd =>
    rw [hu] at h
    refine ⟨kd, rfl, ?_⟩
    cases kd with
    | int k => exact .inl ⟨k, rfl⟩
    | bool => exact .inr (.inl rfl)
    | string => exact .inr (.inr rfl)
    | struct fs =>
      exfalso
      simp only [Bool.and_eq_true, decide_eq_true_eq, beq_iff_eq] at h
      obtain ⟨⟨⟨_, h0⟩, hf⟩, he⟩ := h
      cases hfs : fs.toList with
      | nil => rw [hfs] at he; simp [cY] at he; omega
      | cons f r => rw [hfs] at hf; simp [e7, bK] at hf
    | array n e => simp [bK] at h
    | _ => simp at h
theorem p8 {kt : TypeId} {fs : Array Field} (hok : bK P 2 kt = true) (hu : P.underlying kt = some (.struct fs)) (us : List Value) (hl : us.length = P.cellsOf kt) (em : Bool) (m : Nat) : (Instr.checkKey em (m + 2) kt (.agg us.toArray)).run P w = .ok () w := by
  have hsc : ∀ t v, bK P 1 t = true → (Instr.checkKey em (m + 1) t v).run P w = .ok () w := by
    intro t v ht
    obtain ⟨kd, h1, h2⟩ := mT ht
    unfold Instr.checkKey
    simp only [Sem.run_bind, bf h1, Result.andThen]
    rcases h2 with ⟨k, rfl⟩ | rfl | rfl <;> simp
  have hok' := hok
  unfold bK at hok'
  rw [hu] at hok'
  simp only [Bool.and_eq_true, decide_eq_true_eq, beq_iff_eq] at hok'
  obtain ⟨⟨⟨_, h0⟩, hf⟩, he⟩ := hok'
  have := mS (m := m + 1) (em := em) hsc us fs.toList 0 hf (by omega)
  unfold Instr.checkKey
  simp only [Array.forIn_toList] at this
  simp [Sem.run_bind, bf hu, Result.andThen]
  rw [this]
theorem p9 {kt : TypeId} {n : Nat} {e : TypeId} (hok : bK P 2 kt = true) (hu : P.underlying kt = some (.array n e)) (us : List Value) (hl : us.length = P.cellsOf kt) (em : Bool) (m : Nat) : (Instr.checkKey em (m + 2) kt (.agg us.toArray)).run P w = .ok () w := by
  have hsc : ∀ t v, bK P 1 t = true → (Instr.checkKey em (m + 1) t v).run P w = .ok () w := by
    intro t v ht
    obtain ⟨kd, h1, h2⟩ := mT ht
    unfold Instr.checkKey
    simp only [Sem.run_bind, bf h1, Result.andThen]
    rcases h2 with ⟨k, rfl⟩ | rfl | rfl <;> simp
  have hok' := hok
  unfold bK at hok'
  rw [hu] at hok'
  simp only [Bool.and_eq_true, decide_eq_true_eq, beq_iff_eq] at hok'
  obtain ⟨⟨h0, he⟩, hn⟩ := hok'
  obtain ⟨_, i, hi⟩ := kl he
  unfold Instr.checkKey
  simp only [Sem.run_bind, bf hu, Result.andThen_ok]
  simp only [Std.Legacy.Range.forIn_eq_forIn_range', Std.Legacy.Range.size]
  simp only [Nat.sub_zero, Nat.add_sub_cancel, Nat.div_one]
  have key : ∀ l : List Nat, (∀ j ∈ l, j < n) → (forIn l PUnit.unit (fun j _ => do
      let z ← Go.sizeOf e
      let x ← part e us.toArray (j * z)
      Instr.checkKey em (m + 1) e x
      pure (ForInStep.yield PUnit.unit)) : Sem PUnit).run P w = .ok PUnit.unit w := by
    intro l
    induction l with
    | nil => intro _; simp
    | cons j l ih =>
      intro hj
      have hjn := hj j (by simp)
      have hle : j * P.cellsOf e + P.cellsOf e ≤ us.length := by
        rw [hl, hn]
        calc j * P.cellsOf e + P.cellsOf e = (j + 1) * P.cellsOf e := by rw [Nat.add_mul, Nat.one_mul]
          _ ≤ n * P.cellsOf e := Nat.mul_le_mul_right _ hjn
      obtain ⟨p, hp1, _⟩ := gB (w := w) he us (j * P.cellsOf e) hle
      have := ih fun k hk => hj k (by simp [hk])
      simp only [List.forIn_cons, Sem.run_bind, fP hi, Result.andThen_ok, hp1, hsc e p he, Sem.run_pure]
      exact this
  have := key (List.range' 0 n) (fun j hj => by have := List.mem_range'.1 hj; omega)
  rw [this]; rfl
theorem mU {ks : List Ck} {d d' : D} {b : Bool} (h : (MK.st ks).eq d d' = some b) : ∃ l m, d = .agg l ∧ d' = .agg m ∧ l.length = ks.length ∧ m.length = ks.length ∧ bH ks l m = some b := by
  cases d <;> cases d' <;> simp only [MK.eq, reduceCtorEq] at h
  rename_i l m
  split at h
  · rename_i hl; exact ⟨l, m, rfl, rfl, hl.1, hl.2, h⟩
  · cases h
theorem DRel.aggL {own : Nat → Nat → Prop} {l : List D} {u : Value} (h : DRel own w (.agg l) u) : ∃ us : List Value, u = .agg us.toArray ∧ c9 own w l us := by
  cases h with
  | agg _ cs hl hc => exact ⟨cs.toList, by simp, by simpa using hl, fun i d v hd hv => hc i d v hd (by simpa using hv)⟩
theorem qa {kt : TypeId} {ks : List Ck} (hkt : dX P kt = some (.st ks)) {d d' : D} {u u' : Value} {b : Bool} (h : DRel own w d u) (h' : DRel own w d' u') (he : (MK.st ks).eq d d' = some b) : (Op.equal kt u u').run P w = .ok b w := by
  obtain ⟨hok, rfl, hu⟩ := kE hkt
  obtain ⟨l, m, rfl, rfl, h1, h2, h3⟩ := mU he
  obtain ⟨us, rfl, hus⟩ := h.aggL
  obtain ⟨vs, rfl, hvs⟩ := h'.aggL
  have hlen := ft 2 kt hok
  have hc : ∀ xs : List Value, di P kt xs (.agg xs.toArray) := fun xs => by
    unfold di
    rcases hu with ⟨fs, hu⟩ | ⟨n, e, hu⟩ <;> rw [hu]
  exact jq (w := w) 2 kt hok 9998 l m us vs _ _ b (by omega) (by omega) hus hvs (hc _) (hc _) h3
theorem mV {kt : TypeId} {ks : List Ck} (hkt : dX P kt = some (.st ks)) {k : D} {u : Value} (h : DRel own w k u) : ∀ {es : List (D × D)} {c : List MapEntry} {i : Nat} {r : Option (Nat × D)}, iw own w es c → dW (.st ks) k es i = some r →
    ∃ r', (Instr.findAsking kt u c i).run P w = .ok r' w ∧ match r, r' with
      | some (j, d), some (j', x) => j = j' ∧ DRel own w d x ∧ ∃ t, j = i + t ∧ ∃ p e, es[t]? = some p ∧ c[t]? = some e ∧ (MK.st ks).eq k p.1 = some true
      | none, none => True
      | _, _ => False
  | [], [], i, r, _, hr => by
    simp only [dW, Option.some.injEq] at hr
    subst hr
    exact ⟨none, by simp [Instr.findAsking], trivial⟩
  | p :: es, e :: c, i, r, he, hr => by
    simp only [dW] at hr
    obtain ⟨h1, h2⟩ := he.2 0 p e rfl rfl
    cases hq : (MK.st ks).eq k p.1 with
    | none => rw [hq] at hr; cases hr
    | some b =>
      rw [hq] at hr
      have hs := qa hkt h h1 hq
      cases b with
      | true =>
        simp only [Option.some.injEq] at hr
        subst hr
        exact ⟨some (i, e.val), by simp [Instr.findAsking, hs], rfl, h2, 0, rfl, p, e, rfl, rfl, hq⟩
      | false =>
        obtain ⟨r', h3, h4⟩ := mV hkt h (es := es) (c := c) ⟨by simpa using he.1, fun j p e hp he' => he.2 (j + 1) p e (by simpa using hp) (by simpa using he')⟩ hr
        refine ⟨r', by simp [Instr.findAsking, hs, h3], ?_⟩
        cases r with
        | none => cases r' with
          | none => trivial
          | some y => exact h4
        | some x =>
          cases r' with
          | none => exact h4
          | some y =>
            obtain ⟨g1, g2, t, g3, p', e', g4, g5, g6⟩ := h4
            exact ⟨g1, g2, t + 1, by omega, p', e', by simpa using g4, by simpa using g5, g6⟩
  | [], _ :: _, _, _, he, _ => by have := he.1; simp at this
  | _ :: _, [], _, _, he, _ => by have := he.1; simp at this
theorem mW {kt : TypeId} {q : MK} (hkt : dX P kt = some q) {k : D} {u : Value} (h : DRel own w k u) {es : List (D × D)} {c : List MapEntry} {r : Option (Nat × D)} (he : iw own w es c) : dW q k es 0 = some r →
    ∃ r', (Instr.findKey kt u c).run P w = .ok r' w ∧ match r, r' with
      | some (j, d), some (j', x) => j = j' ∧ DRel own w d x ∧ ∃ t, j = 0 + t ∧ ∃ p e, es[t]? = some p ∧ c[t]? = some e ∧ q.eq k p.1 = some true
      | none, none => True
      | _, _ => False := by
  intro hr
  cases q with
  | one q =>
    obtain ⟨kd, hu, hkd⟩ := mP hkt
    obtain ⟨r', h1, h2⟩ := mR hkd h he hr
    exact ⟨r', MapKept.run_findKey hu h1, h2⟩
  | st ks =>
    obtain ⟨r', h1, h2⟩ := mV hkt h he hr
    obtain ⟨_, _, hu⟩ := kE hkt
    refine ⟨r', ?_, h2⟩
    rcases hu with ⟨fs, hu⟩ | ⟨n, e, hu⟩
    all_goals
      cases c with
      | nil =>
        simp only [Instr.findAsking, Sem.run_pure, Result.ok.injEq, and_true] at h1
        subst h1
        exact MapKept.run_findKey hu rfl
      | cons e c =>
        unfold Instr.findKey
        simp only [Sem.run_bind, bf hu, Result.andThen_ok, Instr.findNow, Instr.sameNow]
        exact h1
theorem mX {kt : TypeId} {q : MK} (hkt : dX P kt = some q) {k : D} {u : Value} (h : DRel own w k u) (hhas : q.has k = true) (em : Bool) : (Instr.checkKey em 10000 kt u).run P w = .ok () w := by
  cases q with
  | one q =>
    obtain ⟨kd, hu, hkd⟩ := mP hkt
    exact p7 hu hkd u em 9999
  | st ks =>
    obtain ⟨hok, rfl, hu⟩ := kE hkt
    cases k <;> simp only [MK.has, Bool.false_eq_true, beq_iff_eq] at hhas
    obtain ⟨us, rfl, hus⟩ := h.aggL
    rcases hu with ⟨fs, hu⟩ | ⟨n, e, hu⟩
    · exact p8 hok hu us (by rw [← hus.1, hhas, ft 2 kt hok]) em 9998
    · exact p9 hok hu us (by rw [← hus.1, hhas, ft 2 kt hok]) em 9998
theorem mY : ∀ {ks : List Ck} {l m : List D}, bH ks l m = some true → l.length = m.length ∧ ∀ (i : Nat) a b, l[i]? = some a → m[i]? = some b → ∃ q, cV q a b = some true
  | [], [], [], _ => ⟨rfl, fun i a b h => by simp at h⟩
  | k :: ks, a :: l, b :: m, h => by
    simp only [bH] at h
    cases hk : cV k a b with
    | none => rw [hk] at h; cases h
    | some x =>
      rw [hk] at h
      cases x with
      | false => cases h
      | true =>
        obtain ⟨h1, h2⟩ := mY h
        refine ⟨by simp [h1], fun i c d hc hd => ?_⟩
        cases i with
        | zero => simp at hc hd; subst hc; subst hd; exact ⟨k, hk⟩
        | succ i => exact h2 i c d (by simpa using hc) (by simpa using hd)
  | [], _ :: _, _, h => by simp [bH] at h
  | [], [], _ :: _, h => by simp [bH] at h
  | _ :: _, [], _, h => by simp [bH] at h
  | _ :: _, _ :: _, [], h => by simp [bH] at h
theorem qb {q : MK} {d d' : D} {u u' : Value} (h : DRel own w d u) (h' : DRel own w d' u') (he : q.eq d d' = some true) (m : Nat) : Instr.sameBits (m + 1) u' u = true := by
  cases q with
  | one q => exact mQ h h' he _
  | st ks =>
    obtain ⟨l, l', rfl, rfl, h1, h2, h3⟩ := mU he
    obtain ⟨us, rfl, hus⟩ := h.aggL
    obtain ⟨vs, rfl, hvs⟩ := h'.aggL
    obtain ⟨hl, hall⟩ := mY h3
    have e1 := hus.1
    have e2 := hvs.1
    simp only [Instr.sameBits, List.size_toArray, Bool.and_eq_true, beq_iff_eq, List.all_eq_true]
    refine ⟨by omega, ?_⟩
    rintro ⟨x, y⟩ hxy
    obtain ⟨i, hi, hxy⟩ := List.getElem_of_mem hxy
    simp only [List.getElem_zip, Prod.mk.injEq] at hxy
    obtain ⟨rfl, rfl⟩ := hxy
    simp at hi
    obtain ⟨q, hq⟩ := hall i l[i] l'[i] (by simp) (by simp)
    exact mQ (hus.2 i _ _ (bt (by omega)) (by simp)) (hvs.2 i _ _ (bt (by omega)) (by simp)) hq m
theorem kF {id b : Nat} {k : Option Nat} {es : List (D × D)} (hs : aB A μ σ w) (hid : σ id = some (.mp es)) (hp : μ id = some (.at b k)) :
    ∃ c clk, w.heap[b]? = some (.map c clk) ∧ iw (ak A μ σ) w es c.toList ∧ k = none := by
  obtain ⟨b', c, clk, h1, h2, h3, h4⟩ := hs.blks id _ hid
  rw [hp] at h1
  cases h1
  exact ⟨c, clk, h2, ⟨by simpa using h3, fun i p e hp he => h4 i p e hp (by simpa using he)⟩, rfl⟩
theorem qc {t : TypeId} {z : D} (h : jf P t z = true) : ∃ i zv, P.info? t = some i ∧ i.zero = some zv ∧ DRel own w z zv := by
  unfold jf at h
  cases hi : P.info? t with
  | none => rw [hi] at h; cases h
  | some i =>
    rw [hi] at h
    simp only at h
    cases hz : i.zero with
    | none => rw [hz] at h; cases z <;> simp at h
    | some v =>
      rw [hz] at h
      refine ⟨i, v, rfl, hz, ?_⟩
      split at h
      · rename_i cs ds hv
        cases hv
        obtain ⟨h1, h2⟩ := fo (own := own) (w := w) h
        exact .agg _ _ (by simpa using h1) fun j d v hd hv => h2 j d v hd (by simpa using hv)
      · rename_i hv _
        cases hv
        exact ke h
      · cases h
theorem qd {t : TypeId} (ho : o.op = .makeMap t none) (hs : aB A μ σ w) (hn : μ n = none) : aZ P A μ σ w o a (.mref n) (aj σ n (some (.mp []))) n (n + 1) := by
  have g := aA.alloc (blk := .mp []) (k := none) (o := .map #[] 0) hs hn
  have hst := hs.alloc hn (.mp []) none (.map #[] 0) ⟨w.heap.size, #[], 0, aL _ _ _, (MapKept.heap_alloc w _).1, rfl, fun i p e h => by simp at h⟩
  refine ⟨_, .map (some w.heap.size), _, _, ?_, .inl rfl, .mref n _ none (aL _ _ _), hst, g, fun id h => ?_⟩
  · simp [execOp, ho, Instr.makeMap]
  · by_cases e : id = n
    · subst e; exact .inr ⟨Nat.le_refl _, Nat.lt_succ_self _⟩
    · rw [aG _ _ e] at h; exact .inl h
theorem mZ {q : MK} {z : D} {ok : Bool} {x i : AX} {x' i' : Operand} {t kt et : TypeId} (ho : o.op = .lookup t x' i' ok) (ht : P.underlying t = some (.map kt et)) (hkt : dX P kt = some q)
    (hz : jf P et z = true) (hx : aw μ (ak A μ σ) w (e x) (a.eval x')) (hi : aw μ (ak A μ σ) w (e i) (a.eval i')) (hs : aB A μ σ w) {id : Nat} {d : D} {es : List (D × D)} {r : Option (Nat × D)}
    (hex : e x = .mref id) (hei : e i = .d d) (hid : σ id = some (.mp es)) (hhas : q.has d = true) (hr : dW q d es 0 = some r) :
    aZ P A μ σ w o a (.d (match r with | some (_, y) => if ok then .tup [y, .bool true] else y | none => if ok then .tup [z, .bool false] else z)) σ n n := by
  rw [hex] at hx; rw [hei] at hi
  generalize hax : a.eval x' = u at hx
  generalize hai : a.eval i' = v at hi
  cases hx with
  | mref _ b k0 hp =>
    cases hi with
    | d _ _ hd =>
      obtain ⟨c, clk, hb, he, rfl⟩ := kF hs hid hp
      obtain ⟨r', hf, h2⟩ := mW hkt hd he hr
      have hck : ∀ em, (Instr.checkKey em 10000 kt v).run P w = .ok () w := mX hkt hd hhas
      obtain ⟨zi, zv, hzi, hz1, hzd⟩ := qc (own := ak A μ σ) (w := w) hz
      cases r with
      | none =>
        cases r' with
        | some y => exact h2.elim
        | none =>
          cases ok with
          | true =>
            refine .val hs (cv := .tuple #[zv, .bool false]) ?_ (.d _ _ (.tup _ _ rfl fun j d v hd hv => ?_))
            · simp [execOp, ho, hax, hai, Instr.lookup, bf ht, MapKept.run_getObj_map hb, hck, hf, ew hzi hz1, Result.andThen]
            · match j with
              | 0 => simp at hd hv; subst hd; subst hv; exact hzd
              | 1 => simp at hd hv; subst hd; subst hv; exact .bool _
              | j + 2 => simp at hd
          | false =>
            refine .val hs (cv := zv) ?_ (.d _ _ hzd)
            simp [execOp, ho, hax, hai, Instr.lookup, bf ht, MapKept.run_getObj_map hb, hck, hf, ew hzi hz1, Result.andThen]
      | some y =>
        cases r' with
        | none => exact h2.elim
        | some y' =>
          obtain ⟨_, hy, _⟩ := h2
          cases ok with
          | true =>
            refine .val hs (cv := .tuple #[y'.2, .bool true]) ?_ (.d _ _ (.tup _ _ rfl fun j d v hd hv => ?_))
            · simp [execOp, ho, hax, hai, Instr.lookup, bf ht, MapKept.run_getObj_map hb, hck, hf, Result.andThen]
            · match j with
              | 0 => simp at hd hv; subst hd; subst hv; exact hy
              | 1 => simp at hd hv; subst hd; subst hv; exact .bool _
              | j + 2 => simp at hd
          | false =>
            refine .val hs (cv := y'.2) ?_ (.d _ _ hy)
            simp [execOp, ho, hax, hai, Instr.lookup, bf ht, MapKept.run_getObj_map hb, hck, hf, Result.andThen]
theorem m0 (hs : aB A μ σ w) {id b : Nat} {es es' : List (D × D)} {c c' : Array MapEntry} {clk clk' : Nat} (hid : σ id = some (.mp es)) (hp : μ id = some (.at b none)) (hb : w.heap[b]? = some (.map c clk)) (hr : iw (ak A μ σ) w es' c'.toList) :
    aA μ σ w μ (aj σ id (some (.mp es'))) { w with heap := w.heap.setIfInBounds b (.map c' clk') } ∧ aB A μ (aj σ id (some (.mp es'))) { w with heap := w.heap.setIfInBounds b (.map c' clk') } := by
  obtain ⟨hset, hoth⟩ := MapKept.heap_set (o' := .map c' clk') hb
  have g : aA μ σ w μ (aj σ id (some (.mp es'))) { w with heap := w.heap.setIfInBounds b (.map c' clk') } := by
    refine ⟨rfl, rfl, rfl, by simp, fun b' hb' hn => hoth b' fun e => hn (by subst e; exact ⟨id, _, none, hid, hp⟩), fun b' c0 ty fr hc0 => ?_, fun b' o' ho' => ?_, fun b' ho' => ?_, fun _ _ h => h⟩
    · have hne : b' ≠ b := by rintro rfl; rw [hb] at hc0; cases hc0
      exact ⟨c0, by rw [hoth b' hne]; exact hc0, rfl, fun _ _ => rfl⟩
    · obtain ⟨j, bl, h1, h2⟩ := ho'
      by_cases e : j = id
      · subst e
        rw [aL] at h1
        cases h1
        exact .inl ⟨j, _, hid, by rw [hp] at h2 ⊢; exact h2⟩
      · rw [aG _ _ e] at h1; exact .inl ⟨j, bl, h1, h2⟩
    · obtain ⟨j, bl, k', h1, h2⟩ := ho'
      by_cases e : j = id
      · subst e; exact .inl ⟨j, _, k', hid, h2⟩
      · rw [aG _ _ e] at h1; exact .inl ⟨j, bl, k', h1, h2⟩
  refine ⟨g, hs.update g id (fun j x hj h => by rwa [aG _ _ hj] at h) (fun _ _ => rfl) (fun x hx => ?_) (fun j x b' k' hj hx hbj => ?_) (fun b' k' x hx hq => ?_)⟩
  · rw [aL] at hx
    cases hx
    exact ⟨b, c', clk', hp, hset, by simpa using hr.1, fun i p e hp' he => by
      obtain ⟨h1, h2⟩ := hr.2 i p e hp' (by simpa using he)
      exact ⟨g.keepD hs.alt h1, g.keepD hs.alt h2⟩⟩
  · rw [aG _ _ hj] at hx
    exact hoth b' fun e => by subst e; exact hj (hs.inj j id x _ b' k' none hx hid hbj hp)
  · refine ⟨hs.amb id _ b' k' hid hq, fun j x' k'' hj hx' hq' => ?_⟩
    rw [aG _ _ hj] at hx'
    exact hj (hs.inj j id x' _ b' k'' k' hx' hid hq' hq)
theorem m3 {q : MK} {x i u : AX} {x' i' u' : Operand} {t kt et : TypeId} (ho : o.op = .mapUpdate t x' i' u') (ht : P.underlying t = some (.map kt et)) (hkt : dX P kt = some q)
    (hx : aw μ (ak A μ σ) w (e x) (a.eval x')) (hi : aw μ (ak A μ σ) w (e i) (a.eval i')) (hu : aw μ (ak A μ σ) w (e u) (a.eval u')) (hs : aB A μ σ w) {id : Nat} {d y : D} {es : List (D × D)} {r : Option (Nat × D)}
    (hex : e x = .mref id) (hei : e i = .d d) (heu : e u = .d y) (hid : σ id = some (.mp es)) (hhas : q.has d = true) (hr : dW q d es 0 = some r) :
    aZ P A μ σ w o a V.undef (aj σ id (some (.mp (match r with | some (j, _) => es.set j (d, y) | none => es ++ [(d, y)])))) n n := by
  rw [hex] at hx; rw [hei] at hi; rw [heu] at hu
  generalize hax : a.eval x' = vx at hx
  generalize hai : a.eval i' = vi at hi
  generalize hau : a.eval u' = vu at hu
  cases hx with
  | mref _ b k0 hp =>
    cases hi with
    | d _ _ hd =>
      cases hu with
      | d _ _ hy =>
        obtain ⟨c, clk, hb, he, rfl⟩ := kF hs hid hp
        obtain ⟨r', hf, h2⟩ := mW hkt hd he hr
        have hck : ∀ em, (Instr.checkKey em 10000 kt vi).run P w = .ok () w := mX hkt hd hhas
        cases r with
        | none =>
          cases r' with
          | some z => exact h2.elim
          | none =>
            obtain ⟨g, hst⟩ := m0 (es' := es ++ [(d, y)]) (c' := c.push { key := vi, val := vu, born := clk }) (clk' := clk + 1) hs hid hp hb ⟨by simp [he.1], fun j p e' hp' he' => by
              simp only [Array.toList_push] at he'
              have hl := he.1
              by_cases hj : j < es.length
              · rw [List.getElem?_append_left hj] at hp'
                rw [List.getElem?_append_left (by omega)] at he'
                exact he.2 j p e' hp' he'
              · rw [List.getElem?_append_right (by omega)] at hp'
                rw [List.getElem?_append_right (by omega), ← hl] at he'
                cases hjj : j - es.length with
                | zero => rw [hjj] at hp' he'; simp at hp' he'; subst hp'; subst he'; exact ⟨hd, hy⟩
                | succ m => rw [hjj] at hp'; simp at hp'⟩
            refine ⟨_, Go.undef, _, μ, ?_, .inr ⟨rfl, rfl⟩, .d _ _ (.undef _), hst, g, fun id h => .inl h⟩
            simp [execOp, ho, hax, hai, hau, Instr.mapUpdate, bf ht, MapKept.run_getObj_map hb, hck, hf, MapKept.run_setObj_map _ hb, Result.andThen]
        | some z =>
          cases r' with
          | none => exact h2.elim
          | some z' =>
            obtain ⟨j, zd⟩ := z
            obtain ⟨j', zx⟩ := z'
            obtain ⟨rfl, _, tt, htt, p0, e0, hp0, he0, hq0⟩ := h2
            have htj : tt = j := by omega
            subst htj
            obtain ⟨hk0, _⟩ := he.2 tt p0 e0 hp0 he0
            have hbits : Instr.sameBits 10000 e0.key vi = true := qb hd hk0 hq0 9999
            have he0' : c[tt]? = some e0 := by simpa using he0
            obtain ⟨g, hst⟩ := m0 (es' := es.set tt (d, y)) (c' := c.modify tt fun e => { e with key := vi, val := vu }) (clk' := clk) hs hid hp hb ⟨by simp [he.1], fun m p e' hp' he' => by
              have hl := he.1
              rw [Array.getElem?_toList, Array.getElem?_modify] at he'
              rw [List.getElem?_set] at hp'
              by_cases hm : tt = m
              · subst hm
                rw [if_pos rfl] at hp' he'
                have htl : tt < es.length := (List.getElem?_eq_some_iff.1 hp0).1
                rw [if_pos htl] at hp'
                rw [he0'] at he'
                simp at hp' he'
                subst hp'; subst he'
                exact ⟨hd, hy⟩
              · rw [if_neg hm] at hp' he'
                exact he.2 m p e' hp' (by simpa using he')⟩
            refine ⟨_, Go.undef, _, μ, ?_, .inr ⟨rfl, rfl⟩, .d _ _ (.undef _), hst, g, fun id h => .inl h⟩
            simp [execOp, ho, hax, hai, hau, Instr.mapUpdate, bf ht, MapKept.run_getObj_map hb, hck, hf, MapKept.run_setObj_map _ hb, Result.andThen, he0', Instr.keyThatStays, hbits]
theorem qe {x : AX} {c : Call} (ho : o.op = .call c) (hb : c.callee = .builtin .len) (hsz2 : c.argTypes.size = 1) (hc : bM [x] c.args.toList = true)
    (hu : ∃ kt et, (c.argTypes[0]?).bind P.underlying = some (.map kt et)) (he : cx μ (ak A μ σ) w e a) (hs : aB A μ σ w) {id : Nat} {es : List (D × D)} (hx : e x = .mref id) (hid : σ id = some (.mp es)) (hle : es.length ≤ maxLen) :
    aZ P A μ σ w o a (.d (.int .i64 es.length)) σ n n := by
  obtain ⟨y, hy, hxy⟩ := jo hc
  obtain ⟨t, ht⟩ := ip hsz2
  obtain ⟨kt, et, hu⟩ := hu
  rw [ht] at hu
  simp at hu
  have hv := he x y hxy
  rw [hx] at hv
  generalize hay : a.eval y = u at hv
  cases hv with
  | mref _ b k0 hp =>
    obtain ⟨cc, clk, hb', hr, rfl⟩ := kF hs hid hp
    have hl : cc.size = es.length := by simpa using hr.1.symm
    exact .val hs (cv := .int .i64 es.length) (by simp [execOp, ho, resolve, hb, hy, hay, ht, invoke, builtin, Builtin.len_, bf hu, goInt, MapKept.run_getObj_map hb', hl, Result.andThen]) (.d _ _ (.int _ _ (hZ hle)))
end
end Go.AM
