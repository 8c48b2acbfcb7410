import Derived.Test.YtnnkfanmokeiaaaAmOps2
set_option linter.unusedVariables false
set_option linter.unusedSectionVars false
set_option linter.unusedSimpArgs false
namespace Go.AM
open Go Go.RowKit
variable [Glob]
section
variable {P : Program} {A : Nat → Nat → Prop} {μ : Nat → Option bI} {σ σ' : aL} {w : World} {o : Oper} {a : Act} {v : V} {n n' : Nat} {e : AX → V}
theorem sv {own : Nat → Nat → Prop} {t : TypeId} {k : Option Nat} (ht : co P t = some k) {ds : List D} {cs : Array Value} (hl : ds.length = cs.size)
    (hr : ∀ (i : Nat) d v, ds[i]? = some d → cs[i]? = some v → DRel own w d v) {j : Nat} {x : D} (hx : eB ds j k = some x) :
    ∃ v, (part t cs j).run P w = .ok v w ∧ DRel own w x v := by
  obtain ⟨h1, h2, _⟩ := eQ (w := w) ht
  cases k with
  | none =>
    have hj : j < cs.size := by have := (List.getElem?_eq_some_iff.1 hx).1; omega
    exact ⟨cs[j], by simp [part, h1, hj], hr j x _ hx (by simp [hj])⟩
  | some m =>
    simp only [eB] at hx
    split at hx
    · rename_i hm
      cases hx
      refine ⟨.agg (cs.extract j (j + m)), by simp [part, h1, h2], .agg _ _ (by simp; omega) fun i d v hd hv => ?_⟩
      have hi : i < m := by have := (List.getElem?_eq_some_iff.1 hd).1; simp at this; omega
      rw [List.getElem?_take, if_pos hi, List.getElem?_drop] at hd
      refine hr (j + i) d v hd ?_
      rw [Array.getElem?_extract] at hv
      split at hv
      · exact hv
      · cases hv
    · cases hx
theorem sx {O : Nat → Nat → Prop} {t : TypeId} {k : Option Nat} (ht : co P t = some k) {ds : List V} {cs : Array Value} (hl : ds.length = cs.size)
    (hr : ∀ (i : Nat) d v, ds[i]? = some d → cs[i]? = some v → aR μ O w d v) {j : Nat} {x : V} (hx : fP ds j k = some x) :
    ∃ v, (part t cs j).run P w = .ok v w ∧ aR μ O w x v := by
  obtain ⟨h1, h2, _⟩ := eQ (w := w) ht
  cases k with
  | none =>
    have hj : j < cs.size := by have := (List.getElem?_eq_some_iff.1 hx).1; omega
    exact ⟨cs[j], by simp [part, h1, hj], hr j x _ hx (by simp [hj])⟩
  | some m =>
    simp only [fP] at hx
    split at hx
    · rename_i hm
      cases hx
      refine ⟨.agg (cs.extract j (j + m)), by simp [part, h1, h2], nw (by simp; omega) fun i d v hd hv => ?_⟩
      have hi : i < m := by have := (List.getElem?_eq_some_iff.1 hd).1; simp at this; omega
      rw [List.getElem?_take, if_pos hi, List.getElem?_drop] at hd
      refine hr (j + i) d v hd ?_
      rw [Array.getElem?_extract] at hv
      split at hv
      · exact hv
      · cases hv
    · cases hx
theorem sy {off : Nat} {k : Option Nat} {x : AX} {y : Operand} {s : TypeId} {f : Nat} {fs : Array Field} {fl : Field} (ho : o.op = .field s y f) (hu : P.underlying s = some (.struct fs)) (hf : fs[f]? = some fl)
    (hoff : fl.offset = off) (ht : co P fl.type = some k) (he : aR μ (aD A μ σ) w (e x) (a.eval y)) (hs : bm A μ σ w)
    (hv : (∃ cs z, e x = .d (.agg cs) ∧ eB cs off k = some z ∧ v = .d z) ∨ (∃ cs, e x = .agg cs ∧ fP cs off k = some v)) : bV P A μ σ w o a v σ n n := by
  generalize hav : a.eval y = u at he
  subst hoff
  rcases hv with ⟨cs, z, hx, hz, rfl⟩ | ⟨cs, hx, hz⟩ <;> rw [hx] at he
  · cases he with
    | d _ _ hd =>
      cases hd with
      | agg _ c hl hr =>
        obtain ⟨r, h1, h2⟩ := sv (P := P) ht hl hr hz
        exact .val hs (cv := r) (by simp [execOp, ho, hav, Instr.field, b9 hu, hf, asAgg, h1]) (.d _ _ h2)
  · cases he with
    | agg _ c hl hr =>
      obtain ⟨r, h1, h2⟩ := sx (P := P) ht hl hr hz
      exact .val hs (cv := r) (by simp [execOp, ho, hav, Instr.field, b9 hu, hf, asAgg, h1]) h2
theorem sA {m : Nat} {k : Option Nat} {x i : AX} {y j : Operand} {t el : TypeId} (ho : o.op = .index t y j) (hu : P.underlying t = some (.array m el)) (ht : co P el = some k)
    (he : aR μ (aD A μ σ) w (e x) (a.eval y)) (hi : aR μ (aD A μ σ) w (e i) (a.eval j)) (hs : bm A μ σ w) {q : IntKind} {ix : Int} (hix : e i = .d (.int q ix)) (h0 : 0 ≤ ix) (hm : ix < m)
    (hv : (∃ cs z, e x = .d (.agg cs) ∧ eB cs (ix.toNat * am k) k = some z ∧ v = .d z) ∨ (∃ cs, e x = .agg cs ∧ fP cs (ix.toNat * am k) k = some v)) : bV P A μ σ w o a v σ n n := by
  rw [hix] at hi
  have hi' := fy hi
  obtain ⟨_, hsz, _⟩ := eQ (w := w) ht
  generalize hav : a.eval y = u at he
  rcases hv with ⟨cs, z, hx, hz, rfl⟩ | ⟨cs, hx, hz⟩ <;> rw [hx] at he
  · cases he with
    | d _ _ hd =>
      cases hd with
      | agg _ c hl hr =>
        obtain ⟨r, h1, h2⟩ := sv (P := P) ht hl hr hz
        exact .val hs (cv := r) (by simp [execOp, ho, hav, hi', Instr.index, asIntOf, b9 hu, h0, hm, hsz, h1]) (.d _ _ h2)
  · cases he with
    | agg _ c hl hr =>
      obtain ⟨r, h1, h2⟩ := sx (P := P) ht hl hr hz
      exact .val hs (cv := r) (by simp [execOp, ho, hav, hi', Instr.index, asIntOf, b9 hu, h0, hm, hsz, h1]) h2
theorem kP {t : TypeId} (h : gb P t = true) : P.underlying t = some .string := by
  unfold gb at h; split at h <;> first | assumption | cases h
theorem xE {x i : AX} {y j : Operand} {t : TypeId} (ho : o.op = .index t y j) (hu : gb P t = true) (he : aR μ (aD A μ σ) w (e x) (a.eval y)) (hi : aR μ (aD A μ σ) w (e i) (a.eval j))
    (hs : bm A μ σ w) {s : ByteArray} {q : IntKind} {ix : Int} {b : UInt8} (hx : e x = .d (.str s)) (hix : e i = .d (.int q ix)) (h0 : 0 ≤ ix) (hb : s.data.toList[ix.toNat]? = some b) :
    bV P A μ σ w o a (.d (.int .u8 b.toNat)) σ n n := by
  rw [hix] at hi
  rw [hx] at he
  have hi' := fy hi
  have hx' := jh he
  have hb' : s[ix.toNat]? = some b := by
    rw [Array.getElem?_toList] at hb
    obtain ⟨hlt, hh⟩ := Array.getElem?_eq_some_iff.1 hb
    have hlt' : ix.toNat < s.size := hlt
    rw [getElem?_pos s ix.toNat hlt']
    exact congrArg some hh
  refine .val hs (cv := .int .u8 b.toNat) ?_ (.d _ _ (.int _ _ (sk b)))
  simp [execOp, ho, hi', hx', Instr.index, asIntOf, b9 (kP hu), h0, hb']
theorem sB {x : AX} {y : Operand} {i : Nat} (ho : o.op = .extract y i) (he : aR μ (aD A μ σ) w (e x) (a.eval y)) (hs : bm A μ σ w)
    (hv : (∃ ds z, e x = .d (.tup ds) ∧ ds[i]? = some z ∧ v = .d z) ∨ (∃ vs, e x = .tup vs ∧ vs[i]? = some v)) : bV P A μ σ w o a v σ n n := by
  generalize hav : a.eval y = u at he
  rcases hv with ⟨cs, z, hx, hz, rfl⟩ | ⟨cs, hx, hz⟩ <;> rw [hx] at he
  · cases he with
    | d _ _ hd =>
      cases hd with
      | tup _ c hl hr =>
        have hj : i < c.size := by have := (List.getElem?_eq_some_iff.1 hz).1; omega
        exact .val hs (cv := c[i]) (by simp [execOp, ho, hav, Instr.extract, hj]) (.d _ _ (hr i z _ hz (by simp [hj])))
  · cases he with
    | tup _ c hl hr =>
      have hj : i < c.size := by have := (List.getElem?_eq_some_iff.1 hz).1; omega
      exact .val hs (cv := c[i]) (by simp [execOp, ho, hav, Instr.extract, hj]) (hr i v _ hz (by simp [hj]))
theorem xF {k q : IntKind} {i : Int} {x : AX} {y : Operand} {s t : TypeId} (ho : o.op = .convert s t y) (hsu : (P.underlying s).isSome = true) (ht : P.underlying t = some (.int k))
    (he : aR μ (aD A μ σ) w (e x) (a.eval y)) (hx : e x = .d (.int q i)) (hs : bm A μ σ w) : bV P A μ σ w o a (.d (.int k (k.wrap i))) σ n n := by
  rw [hx] at he
  have hx' := fy he
  obtain ⟨u, hu⟩ := Option.isSome_iff_exists.1 hsu
  exact .val hs (cv := .int k (k.wrap i)) (by simp [execOp, ho, hx', convert, b9 hu, b9 ht, Conv.intToInt]) (.d _ _ (.int _ _ (lL _ _)))
theorem xG {b : ByteArray} {x : AX} {y : Operand} {s t : TypeId} (ho : o.op = .convert s t y) (hsu : gb P s = true) (ht : gb P t = true)
    (he : aR μ (aD A μ σ) w (e x) (a.eval y)) (hx : e x = .d (.str b)) (hs : bm A μ σ w) : bV P A μ σ w o a (.d (.str b)) σ n n := by
  rw [hx] at he
  have hr := pA he
  have hx' := jh he
  exact .val hs (cv := .string b) (by simp [execOp, ho, hx', convert, b9 (kP hsu), b9 (kP ht)]) (.d _ _ (.str _ hr))
theorem xH {op : UnOp} {x : AX} {y : Operand} {t : TypeId} (ho : o.op = .unOp op t y) (he : aR μ (aD A μ σ) w (e x) (a.eval y)) (hv : np op (e x) = some v) (hs : bm A μ σ w) :
    bV P A μ σ w o a v σ n n := by
  unfold np at hv
  split at hv
  · rename_i b hx
    cases hv
    rw [hx] at he
    have hx' := j1 he
    exact .val hs (cv := .bool (!b)) (by simp [execOp, ho, hx', Op.unary]) (.d _ _ (.bool _))
  · rename_i k i hx
    cases hv
    rw [hx] at he
    have hx' := fy he
    exact .val hs (cv := .int k (k.wrap (0 - i))) (by simp [execOp, ho, hx', Op.unary, Op.intArith]) (.d _ _ (.int _ _ (lL _ _)))
  · cases hv
theorem sC : ∀ {xs : List AX} {ys : List Operand}, cU xs ys = true → xs.length = ys.length ∧ ∀ (i : Nat) x y, xs[i]? = some x → ys[i]? = some y → bT x y = true
  | [], [], _ => ⟨rfl, fun i x y h => by simp at h⟩
  | x :: l, y :: r, h => by
    simp only [cU, Bool.and_eq_true] at h
    obtain ⟨hl, ih⟩ := sC h.2
    refine ⟨by simp [hl], fun i u v hu hv => ?_⟩
    cases i with
    | zero => simp at hu hv; subst hu; subst hv; exact h.1
    | succ i => exact ih i u v (by simpa using hu) (by simpa using hv)
  | [], _ :: _, h => by simp [cU] at h
  | _ :: _, [], h => by simp [cU] at h
theorem dU.list {O : Nat → Nat → Prop} (he : dU μ O w e a) {xs : List AX} {ys : Array Operand} (h : cU xs ys.toList = true) :
    (xs.map e).length = (ys.map a.eval).size ∧ ∀ (i : Nat) x v, (xs.map e)[i]? = some x → (ys.map a.eval)[i]? = some v → aR μ O w x v := by
  obtain ⟨hl, hr⟩ := sC h
  refine ⟨by simpa using hl, fun i x v hx hv => ?_⟩
  simp only [List.getElem?_map, Array.getElem?_map] at hx hv
  cases hxi : xs[i]? with
  | none => simp [hxi] at hx
  | some x0 =>
    cases hyi : ys[i]? with
    | none => simp [hyi] at hv
    | some y0 =>
      simp [hxi, hyi] at hx hv
      subst hx; subst hv
      exact he _ _ (hr i x0 y0 hxi (by simpa using hyi))
theorem sD {f : Nat} {caps : List AX} {captured first : Array Operand} (ho : o.op = .makeFunc (.func f) first captured) (hf : first.size = 0) (hc : cU caps captured.toList = true)
    (he : dU μ (aD A μ σ) w e a) (hs : bm A μ σ w)
    (hv : (∃ ds, cg (caps.map fun x => (e x).toD) = some ds ∧ v = .d (.func f ds)) ∨ v = .func f (caps.map e)) : bV P A μ σ w o a v σ n n := by
  obtain ⟨hl, hr⟩ := he.list hc
  have e0 : first = #[] := Array.eq_empty_of_size_eq_zero hf
  subst e0
  refine .val hs (cv := .func (.func f) #[] (captured.map a.eval)) (by simp [execOp, ho, Instr.makeFunc]) ?_
  rcases hv with ⟨ds, hd, rfl⟩ | rfl
  · have hd' : cg ((caps.map e).map V.toD) = some ds := by rw [List.map_map]; exact hd
    have ed := kN hd'
    rw [ed] at hl hr
    refine .d _ _ (.func f ds _ (by simpa using hl) fun i d v hdi hvi => ?_)
    have := hr i (.d d) v (by simp [hdi]) hvi
    cases this with | d _ _ h => exact h
  · exact .func f _ _ hl hr
theorem nC {c : Call} {x : AX} (hc : cU [x] c.args.toList = true) : ∃ y, c.args = #[y] ∧ bT x y = true := by
  obtain ⟨callee, ⟨args⟩, argTypes⟩ := c
  match args, hc with
  | [y], hc => exact ⟨y, rfl, by simpa [cU] using hc⟩
  | [], hc => simp [cU] at hc
  | y :: z :: r, hc => simp [cU] at hc
theorem nD {c : Call} {x x' : AX} (hc : cU [x, x'] c.args.toList = true) : ∃ y y', c.args = #[y, y'] ∧ bT x y = true ∧ bT x' y' = true := by
  obtain ⟨callee, ⟨args⟩, argTypes⟩ := c
  match args, hc with
  | [y, y'], hc => exact ⟨y, y', rfl, by simpa [cU] using hc⟩
  | [], hc => simp [cU] at hc
  | [y], hc => simp [cU] at hc
  | y :: z :: u :: r, hc => simp [cU] at hc
theorem xI {O : Nat → Nat → Prop} {x : V} {u : Value} {m : Nat} (h : aR μ O w x u) (hx : (∃ k vs, x = .d (.vec k vs) ∧ m = vs.length) ∨ (x = .d .nils ∧ m = 0) ∨ (∃ id off, x = .loc id off m)) : (∃ p c, u = .slice p m c) ∧ m ≤ maxLen := by
  rcases hx with ⟨k, vs, rfl, rfl⟩ | ⟨rfl, rfl⟩ | ⟨id, off, rfl⟩
  · cases h with | d _ _ hd => cases hd with
      | vecn k a => exact ⟨⟨_, _, rfl⟩, Nat.zero_le _⟩
      | vec _ _ _ _ _ _ hc => exact ⟨⟨_, _, rfl⟩, Nat.le_trans hc.1 hc.2⟩
  · exact ⟨⟨_, _, nA h⟩, Nat.zero_le _⟩
  · cases h with
    | loc0 => exact ⟨⟨_, _, rfl⟩, Nat.zero_le _⟩
    | loc _ _ _ _ _ _ _ h1 h2 => exact ⟨⟨_, _, rfl⟩, Nat.le_trans h1 h2⟩
theorem lV {c : Call} (h : c.argTypes.size = 1) : ∃ t, c.argTypes = #[t] := by
  obtain ⟨callee, args, ⟨ts⟩⟩ := c
  match ts, h with
  | [t], _ => exact ⟨t, rfl⟩
theorem sE {c : Call} (h : c.argTypes.size = 2) : ∃ t u, c.argTypes = #[t, u] := by
  obtain ⟨callee, args, ⟨ts⟩⟩ := c
  match ts, h with
  | [t, u], _ => exact ⟨t, u, rfl⟩
theorem pB {x : AX} {c : Call} {el : TypeId} (ho : o.op = .call c) (hb : c.callee = .builtin .len) (hsz2 : c.argTypes.size = 1) (hc : cU [x] c.args.toList = true)
    (hu : (c.argTypes[0]?).bind P.underlying = some (.slice el)) (he : dU μ (aD A μ σ) w e a) (hs : bm A μ σ w) {m : Nat}
    (hx : (∃ k vs, e x = .d (.vec k vs) ∧ m = vs.length) ∨ (e x = .d .nils ∧ m = 0) ∨ (∃ id off, e x = .loc id off m)) : bV P A μ σ w o a (.d (.int .i64 m)) σ n n := by
  obtain ⟨y, hy, hxy⟩ := nC hc
  obtain ⟨t, ht⟩ := lV hsz2
  obtain ⟨⟨p, cp, hv⟩, hm⟩ := xI (he x y hxy) hx
  rw [ht] at hu
  simp at hu
  exact .val hs (cv := .int .i64 m) (by simp [execOp, ho, resolve, hb, hy, hv, ht, invoke, builtin, Builtin.len_, b9 hu, goInt]) (.d _ _ (.int _ _ (lM hm)))
theorem xJ {x : AX} {c : Call} {s : ByteArray} (ho : o.op = .call c) (hb : c.callee = .builtin .len) (hsz2 : c.argTypes.size = 1) (hc : cU [x] c.args.toList = true)
    (hu : (c.argTypes[0]?).bind P.underlying = some .string) (he : dU μ (aD A μ σ) w e a) (hs : bm A μ σ w) (hx : e x = .d (.str s)) : bV P A μ σ w o a (.d (.int .i64 s.size)) σ n n := by
  obtain ⟨y, hy, hxy⟩ := nC hc
  obtain ⟨t, ht⟩ := lV hsz2
  have hv := he x y hxy
  rw [hx] at hv
  have hm := pA hv
  have hv := jh hv
  rw [ht] at hu
  simp at hu
  exact .val hs (cv := .int .i64 s.size) (by simp [execOp, ho, resolve, hb, hy, hv, ht, invoke, builtin, Builtin.len_, b9 hu, goInt]) (.d _ _ (.int _ _ (lM hm)))
theorem xK {m : Nat} (hmm : m ≤ 65536) {c : Call} (ho : o.op = .call c) (hb : c.callee = .builtin .len) (hsz : c.args.size = 1) (hsz2 : c.argTypes.size = 1)
    (hu : (∃ el, (c.argTypes[0]?).bind P.underlying = some (.array m el)) ∨ ∃ q el, (c.argTypes[0]?).bind P.underlying = some (.pointer q) ∧ P.underlying q = some (.array m el)) (hs : bm A μ σ w) :
    bV P A μ σ w o a (.d (.int .i64 m)) σ n n := by
  obtain ⟨t, ht⟩ := lV hsz2
  obtain ⟨y, hy⟩ : ∃ y, c.args = #[y] := by
    obtain ⟨callee, ⟨args⟩, ts⟩ := c
    match args, hsz with
    | [y], _ => exact ⟨y, rfl⟩
  rw [ht] at hu
  simp at hu
  rcases hu with ⟨el, hu⟩ | ⟨q, hu, el, hq⟩
  · refine .val hs (cv := .int .i64 m) ?_ (.d _ _ (.int _ _ (lM (by unfold maxLen; omega))))
    simp only [execOp, ho, resolve, hb, hy, ht, invoke, builtin, Builtin.len_]
    simp [b9 hu, goInt]
  · refine .val hs (cv := .int .i64 m) ?_ (.d _ _ (.int _ _ (lM (by unfold maxLen; omega))))
    simp only [execOp, ho, resolve, hb, hy, ht, invoke, builtin, Builtin.len_]
    simp [b9 hu, b9 hq, goInt]
theorem xL {x x' : AX} {c : Call} {k : IntKind} {i j : Int} (ho : o.op = .call c) (hb : c.callee = .builtin .min) (hc : cU [x, x'] c.args.toList = true)
    (he : dU μ (aD A μ σ) w e a) (hs : bm A μ σ w) (hx : e x = .d (.int k i)) (hx' : e x' = .d (.int k j)) : bV P A μ σ w o a (.d (.int k (if j < i then j else i))) σ n n := by
  obtain ⟨y, y', hy, h1, h2⟩ := nD hc
  have h1 := he x y h1
  have h2 := he x' y' h2
  rw [hx] at h1; rw [hx'] at h2
  have r1 := kO h1
  have r2 := kO h2
  have h1 := fy h1
  have h2 := fy h2
  exact .val hs (cv := .int k (if j < i then j else i)) (by simp [execOp, ho, resolve, hb, hy, h1, h2, invoke, builtin, Builtin.min_, Builtin.min2]) (.d _ _ (.int _ _ (by split <;> assumption)))
theorem xM {x x' : AX} {c : Call} {k : IntKind} {i j : Int} (ho : o.op = .call c) (hb : c.callee = .builtin .max) (hc : cU [x, x'] c.args.toList = true)
    (he : dU μ (aD A μ σ) w e a) (hs : bm A μ σ w) (hx : e x = .d (.int k i)) (hx' : e x' = .d (.int k j)) : bV P A μ σ w o a (.d (.int k (if j > i then j else i))) σ n n := by
  obtain ⟨y, y', hy, h1, h2⟩ := nD hc
  have h1 := he x y h1
  have h2 := he x' y' h2
  rw [hx] at h1; rw [hx'] at h2
  have r1 := kO h1
  have r2 := kO h2
  have h1 := fy h1
  have h2 := fy h2
  exact .val hs (cv := .int k (if j > i then j else i)) (by simp [execOp, ho, resolve, hb, hy, h1, h2, invoke, builtin, Builtin.max_, Builtin.max2]) (.d _ _ (.int _ _ (by split <;> assumption)))
end
end Go.AM
