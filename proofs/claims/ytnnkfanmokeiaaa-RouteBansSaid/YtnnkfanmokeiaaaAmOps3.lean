import Derived.Test.YtnnkfanmokeiaaaAmOps2
set_option linter.unusedVariables false
set_option linter.unusedSectionVars false
set_option linter.unusedSimpArgs false
namespace Go.AM
open Go Go.RowKit
variable [Glob]
section
variable {P : Program} {A : Nat → Nat → Prop} {μ : Nat → Option bA} {σ σ' : aH} {w : World} {o : Oper} {a : Act} {v : V} {n n' : Nat} {e : AX → V}
theorem sf {own : Nat → Nat → Prop} {t : TypeId} {k : Option Nat} (ht : ca P t = some k) {ds : List D} {cs : Array Value} (hl : ds.length = cs.size)
    (hr : ∀ (i : Nat) d v, ds[i]? = some d → cs[i]? = some v → DRel own w d v) {j : Nat} {x : D} (hx : dZ ds j k = some x) :
    ∃ v, (part t cs j).run P w = .ok v w ∧ DRel own w x v := by
  obtain ⟨h1, h2, _⟩ := ey (w := w) ht
  cases k with
  | none =>
    have hj : j < cs.size := by have := (List.getElem?_eq_some_iff.1 hx).1; omega
    exact ⟨cs[j], by simp [part, h1, hj], hr j x _ hx (by simp [hj])⟩
  | some m =>
    simp only [dZ] at hx
    split at hx
    · rename_i hm
      cases hx
      refine ⟨.agg (cs.extract j (j + m)), by simp [part, h1, h2], .agg _ _ (by simp; omega) fun i d v hd hv => ?_⟩
      have hi : i < m := by have := (List.getElem?_eq_some_iff.1 hd).1; simp at this; omega
      rw [List.getElem?_take, if_pos hi, List.getElem?_drop] at hd
      refine hr (j + i) d v hd ?_
      rw [Array.getElem?_extract] at hv
      split at hv
      · exact hv
      · cases hv
    · cases hx
theorem sg {O : Nat → Nat → Prop} {t : TypeId} {k : Option Nat} (ht : ca P t = some k) {ds : List V} {cs : Array Value} (hl : ds.length = cs.size)
    (hr : ∀ (i : Nat) d v, ds[i]? = some d → cs[i]? = some v → aJ μ O w d v) {j : Nat} {x : V} (hx : fF ds j k = some x) :
    ∃ v, (part t cs j).run P w = .ok v w ∧ aJ μ O w x v := by
  obtain ⟨h1, h2, _⟩ := ey (w := w) ht
  cases k with
  | none =>
    have hj : j < cs.size := by have := (List.getElem?_eq_some_iff.1 hx).1; omega
    exact ⟨cs[j], by simp [part, h1, hj], hr j x _ hx (by simp [hj])⟩
  | some m =>
    simp only [fF] at hx
    split at hx
    · rename_i hm
      cases hx
      refine ⟨.agg (cs.extract j (j + m)), by simp [part, h1, h2], mN (by simp; omega) fun i d v hd hv => ?_⟩
      have hi : i < m := by have := (List.getElem?_eq_some_iff.1 hd).1; simp at this; omega
      rw [List.getElem?_take, if_pos hi, List.getElem?_drop] at hd
      refine hr (j + i) d v hd ?_
      rw [Array.getElem?_extract] at hv
      split at hv
      · exact hv
      · cases hv
    · cases hx
theorem sh {off : Nat} {k : Option Nat} {x : AX} {y : Operand} {s : TypeId} {f : Nat} {fs : Array Field} {fl : Field} (ho : o.op = .field s y f) (hu : P.underlying s = some (.struct fs)) (hf : fs[f]? = some fl)
    (hoff : fl.offset = off) (ht : ca P fl.type = some k) (he : aJ μ (aA A μ σ) w (e x) (a.eval y)) (hs : aY A μ σ w)
    (hv : (∃ cs z, e x = .d (.agg cs) ∧ dZ cs off k = some z ∧ v = .d z) ∨ (∃ cs, e x = .agg cs ∧ fF cs off k = some v)) : bN P A μ σ w o a v σ n n := by
  generalize hav : a.eval y = u at he
  subst hoff
  rcases hv with ⟨cs, z, hx, hz, rfl⟩ | ⟨cs, hx, hz⟩ <;> rw [hx] at he
  · cases he with
    | d _ _ hd =>
      cases hd with
      | agg _ c hl hr =>
        obtain ⟨r, h1, h2⟩ := sf (P := P) ht hl hr hz
        exact .val hs (cv := r) (by simp [execOp, ho, hav, Instr.field, bT hu, hf, asAgg, h1]) (.d _ _ h2)
  · cases he with
    | agg _ c hl hr =>
      obtain ⟨r, h1, h2⟩ := sg (P := P) ht hl hr hz
      exact .val hs (cv := r) (by simp [execOp, ho, hav, Instr.field, bT hu, hf, asAgg, h1]) h2
theorem si {m : Nat} {k : Option Nat} {x i : AX} {y j : Operand} {t el : TypeId} (ho : o.op = .index t y j) (hu : P.underlying t = some (.array m el)) (ht : ca P el = some k)
    (he : aJ μ (aA A μ σ) w (e x) (a.eval y)) (hi : aJ μ (aA A μ σ) w (e i) (a.eval j)) (hs : aY A μ σ w) {q : IntKind} {ix : Int} (hix : e i = .d (.int q ix)) (h0 : 0 ≤ ix) (hm : ix < m)
    (hv : (∃ cs z, e x = .d (.agg cs) ∧ dZ cs (ix.toNat * ak k) k = some z ∧ v = .d z) ∨ (∃ cs, e x = .agg cs ∧ fF cs (ix.toNat * ak k) k = some v)) : bN P A μ σ w o a v σ n n := by
  rw [hix] at hi
  have hi' := fe hi
  obtain ⟨_, hsz, _⟩ := ey (w := w) ht
  generalize hav : a.eval y = u at he
  rcases hv with ⟨cs, z, hx, hz, rfl⟩ | ⟨cs, hx, hz⟩ <;> rw [hx] at he
  · cases he with
    | d _ _ hd =>
      cases hd with
      | agg _ c hl hr =>
        obtain ⟨r, h1, h2⟩ := sf (P := P) ht hl hr hz
        exact .val hs (cv := r) (by simp [execOp, ho, hav, hi', Instr.index, asIntOf, bT hu, h0, hm, hsz, h1]) (.d _ _ h2)
  · cases he with
    | agg _ c hl hr =>
      obtain ⟨r, h1, h2⟩ := sg (P := P) ht hl hr hz
      exact .val hs (cv := r) (by simp [execOp, ho, hav, hi', Instr.index, asIntOf, bT hu, h0, hm, hsz, h1]) h2
theorem kv {t : TypeId} (h : fW P t = true) : P.underlying t = some .string := by
  unfold fW at h; split at h <;> first | assumption | cases h
theorem wW {x i : AX} {y j : Operand} {t : TypeId} (ho : o.op = .index t y j) (hu : fW P t = true) (he : aJ μ (aA A μ σ) w (e x) (a.eval y)) (hi : aJ μ (aA A μ σ) w (e i) (a.eval j))
    (hs : aY A μ σ w) {s : ByteArray} {q : IntKind} {ix : Int} {b : UInt8} (hx : e x = .d (.str s)) (hix : e i = .d (.int q ix)) (h0 : 0 ≤ ix) (hb : s.data.toList[ix.toNat]? = some b) :
    bN P A μ σ w o a (.d (.int .u8 b.toNat)) σ n n := by
  rw [hix] at hi
  rw [hx] at he
  have hi' := fe hi
  have hx' := iV he
  have hb' : s[ix.toNat]? = some b := by
    rw [Array.getElem?_toList] at hb
    obtain ⟨hlt, hh⟩ := Array.getElem?_eq_some_iff.1 hb
    have hlt' : ix.toNat < s.size := hlt
    rw [getElem?_pos s ix.toNat hlt']
    exact congrArg some hh
  refine .val hs (cv := .int .u8 b.toNat) ?_ (.d _ _ (.int _ _ (rW b)))
  simp [execOp, ho, hi', hx', Instr.index, asIntOf, bT (kv hu), h0, hb']
theorem sk {x : AX} {y : Operand} {i : Nat} (ho : o.op = .extract y i) (he : aJ μ (aA A μ σ) w (e x) (a.eval y)) (hs : aY A μ σ w)
    (hv : (∃ ds z, e x = .d (.tup ds) ∧ ds[i]? = some z ∧ v = .d z) ∨ (∃ vs, e x = .tup vs ∧ vs[i]? = some v)) : bN P A μ σ w o a v σ n n := by
  generalize hav : a.eval y = u at he
  rcases hv with ⟨cs, z, hx, hz, rfl⟩ | ⟨cs, hx, hz⟩ <;> rw [hx] at he
  · cases he with
    | d _ _ hd =>
      cases hd with
      | tup _ c hl hr =>
        have hj : i < c.size := by have := (List.getElem?_eq_some_iff.1 hz).1; omega
        exact .val hs (cv := c[i]) (by simp [execOp, ho, hav, Instr.extract, hj]) (.d _ _ (hr i z _ hz (by simp [hj])))
  · cases he with
    | tup _ c hl hr =>
      have hj : i < c.size := by have := (List.getElem?_eq_some_iff.1 hz).1; omega
      exact .val hs (cv := c[i]) (by simp [execOp, ho, hav, Instr.extract, hj]) (hr i v _ hz (by simp [hj]))
theorem wX {k q : IntKind} {i : Int} {x : AX} {y : Operand} {s t : TypeId} (ho : o.op = .convert s t y) (hsu : (P.underlying s).isSome = true) (ht : P.underlying t = some (.int k))
    (he : aJ μ (aA A μ σ) w (e x) (a.eval y)) (hx : e x = .d (.int q i)) (hs : aY A μ σ w) : bN P A μ σ w o a (.d (.int k (k.wrap i))) σ n n := by
  rw [hx] at he
  have hx' := fe he
  obtain ⟨u, hu⟩ := Option.isSome_iff_exists.1 hsu
  exact .val hs (cv := .int k (k.wrap i)) (by simp [execOp, ho, hx', convert, bT hu, bT ht, Conv.intToInt]) (.d _ _ (.int _ _ (lg _ _)))
theorem wY {b : ByteArray} {x : AX} {y : Operand} {s t : TypeId} (ho : o.op = .convert s t y) (hsu : fW P s = true) (ht : fW P t = true)
    (he : aJ μ (aA A μ σ) w (e x) (a.eval y)) (hx : e x = .d (.str b)) (hs : aY A μ σ w) : bN P A μ σ w o a (.d (.str b)) σ n n := by
  rw [hx] at he
  have hr := o8 he
  have hx' := iV he
  exact .val hs (cv := .string b) (by simp [execOp, ho, hx', convert, bT (kv hsu), bT (kv ht)]) (.d _ _ (.str _ hr))
theorem wZ {op : UnOp} {x : AX} {y : Operand} {t : TypeId} (ho : o.op = .unOp op t y) (he : aJ μ (aA A μ σ) w (e x) (a.eval y)) (hv : mI op (e x) = some v) (hs : aY A μ σ w) :
    bN P A μ σ w o a v σ n n := by
  unfold mI at hv
  split at hv
  · rename_i b hx
    cases hv
    rw [hx] at he
    have hx' := jJ he
    exact .val hs (cv := .bool (!b)) (by simp [execOp, ho, hx', Op.unary]) (.d _ _ (.bool _))
  · rename_i k i hx
    cases hv
    rw [hx] at he
    have hx' := fe he
    exact .val hs (cv := .int k (k.wrap (0 - i))) (by simp [execOp, ho, hx', Op.unary, Op.intArith]) (.d _ _ (.int _ _ (lg _ _)))
  · cases hv
theorem sl : ∀ {xs : List AX} {ys : List Operand}, cS xs ys = true → xs.length = ys.length ∧ ∀ (i : Nat) x y, xs[i]? = some x → ys[i]? = some y → bM x y = true
  | [], [], _ => ⟨rfl, fun i x y h => by simp at h⟩
  | x :: l, y :: r, h => by
    simp only [cS, Bool.and_eq_true] at h
    obtain ⟨hl, ih⟩ := sl h.2
    refine ⟨by simp [hl], fun i u v hu hv => ?_⟩
    cases i with
    | zero => simp at hu hv; subst hu; subst hv; exact h.1
    | succ i => exact ih i u v (by simpa using hu) (by simpa using hv)
  | [], _ :: _, h => by simp [cS] at h
  | _ :: _, [], h => by simp [cS] at h
theorem dO.list {O : Nat → Nat → Prop} (he : dO μ O w e a) {xs : List AX} {ys : Array Operand} (h : cS xs ys.toList = true) :
    (xs.map e).length = (ys.map a.eval).size ∧ ∀ (i : Nat) x v, (xs.map e)[i]? = some x → (ys.map a.eval)[i]? = some v → aJ μ O w x v := by
  obtain ⟨hl, hr⟩ := sl h
  refine ⟨by simpa using hl, fun i x v hx hv => ?_⟩
  simp only [List.getElem?_map, Array.getElem?_map] at hx hv
  cases hxi : xs[i]? with
  | none => simp [hxi] at hx
  | some x0 =>
    cases hyi : ys[i]? with
    | none => simp [hyi] at hv
    | some y0 =>
      simp [hxi, hyi] at hx hv
      subst hx; subst hv
      exact he _ _ (hr i x0 y0 hxi (by simpa using hyi))
theorem sm {f : Nat} {caps : List AX} {captured first : Array Operand} (ho : o.op = .makeFunc (.func f) first captured) (hf : first.size = 0) (hc : cS caps captured.toList = true)
    (he : dO μ (aA A μ σ) w e a) (hs : aY A μ σ w)
    (hv : (∃ ds, bY (caps.map fun x => (e x).toD) = some ds ∧ v = .d (.func f ds)) ∨ v = .func f (caps.map e)) : bN P A μ σ w o a v σ n n := by
  obtain ⟨hl, hr⟩ := he.list hc
  have e0 : first = #[] := Array.eq_empty_of_size_eq_zero hf
  subst e0
  refine .val hs (cv := .func (.func f) #[] (captured.map a.eval)) (by simp [execOp, ho, Instr.makeFunc]) ?_
  rcases hv with ⟨ds, hd, rfl⟩ | rfl
  · have hd' : bY ((caps.map e).map V.toD) = some ds := by rw [List.map_map]; exact hd
    have ed := kr hd'
    rw [ed] at hl hr
    refine .d _ _ (.func f ds _ (by simpa using hl) fun i d v hdi hvi => ?_)
    have := hr i (.d d) v (by simp [hdi]) hvi
    cases this with | d _ _ h => exact h
  · exact .func f _ _ hl hr
theorem mT {c : Call} {x : AX} (hc : cS [x] c.args.toList = true) : ∃ y, c.args = #[y] ∧ bM x y = true := by
  obtain ⟨callee, ⟨args⟩, argTypes⟩ := c
  match args, hc with
  | [y], hc => exact ⟨y, rfl, by simpa [cS] using hc⟩
  | [], hc => simp [cS] at hc
  | y :: z :: r, hc => simp [cS] at hc
theorem mU {c : Call} {x x' : AX} (hc : cS [x, x'] c.args.toList = true) : ∃ y y', c.args = #[y, y'] ∧ bM x y = true ∧ bM x' y' = true := by
  obtain ⟨callee, ⟨args⟩, argTypes⟩ := c
  match args, hc with
  | [y, y'], hc => exact ⟨y, y', rfl, by simpa [cS] using hc⟩
  | [], hc => simp [cS] at hc
  | [y], hc => simp [cS] at hc
  | y :: z :: u :: r, hc => simp [cS] at hc
theorem w4 {O : Nat → Nat → Prop} {x : V} {u : Value} {m : Nat} (h : aJ μ O w x u) (hx : (∃ k vs, x = .d (.vec k vs) ∧ m = vs.length) ∨ (x = .d .nils ∧ m = 0) ∨ (∃ id off, x = .loc id off m)) : (∃ p c, u = .slice p m c) ∧ m ≤ maxLen := by
  rcases hx with ⟨k, vs, rfl, rfl⟩ | ⟨rfl, rfl⟩ | ⟨id, off, rfl⟩
  · cases h with | d _ _ hd => cases hd with
      | vecn k a => exact ⟨⟨_, _, rfl⟩, Nat.zero_le _⟩
      | vec _ _ _ _ _ _ hc => exact ⟨⟨_, _, rfl⟩, Nat.le_trans hc.1 hc.2⟩
  · exact ⟨⟨_, _, mR h⟩, Nat.zero_le _⟩
  · cases h with
    | loc0 => exact ⟨⟨_, _, rfl⟩, Nat.zero_le _⟩
    | loc _ _ _ _ _ _ _ h1 h2 => exact ⟨⟨_, _, rfl⟩, Nat.le_trans h1 h2⟩
theorem lB {c : Call} (h : c.argTypes.size = 1) : ∃ t, c.argTypes = #[t] := by
  obtain ⟨callee, args, ⟨ts⟩⟩ := c
  match ts, h with
  | [t], _ => exact ⟨t, rfl⟩
theorem sn {c : Call} (h : c.argTypes.size = 2) : ∃ t u, c.argTypes = #[t, u] := by
  obtain ⟨callee, args, ⟨ts⟩⟩ := c
  match ts, h with
  | [t, u], _ => exact ⟨t, u, rfl⟩
theorem o9 {x : AX} {c : Call} {el : TypeId} (ho : o.op = .call c) (hb : c.callee = .builtin .len) (hsz2 : c.argTypes.size = 1) (hc : cS [x] c.args.toList = true)
    (hu : (c.argTypes[0]?).bind P.underlying = some (.slice el)) (he : dO μ (aA A μ σ) w e a) (hs : aY A μ σ w) {m : Nat}
    (hx : (∃ k vs, e x = .d (.vec k vs) ∧ m = vs.length) ∨ (e x = .d .nils ∧ m = 0) ∨ (∃ id off, e x = .loc id off m)) : bN P A μ σ w o a (.d (.int .i64 m)) σ n n := by
  obtain ⟨y, hy, hxy⟩ := mT hc
  obtain ⟨t, ht⟩ := lB hsz2
  obtain ⟨⟨p, cp, hv⟩, hm⟩ := w4 (he x y hxy) hx
  rw [ht] at hu
  simp at hu
  exact .val hs (cv := .int .i64 m) (by simp [execOp, ho, resolve, hb, hy, hv, ht, invoke, builtin, Builtin.len_, bT hu, goInt]) (.d _ _ (.int _ _ (lh hm)))
theorem w5 {x : AX} {c : Call} {s : ByteArray} (ho : o.op = .call c) (hb : c.callee = .builtin .len) (hsz2 : c.argTypes.size = 1) (hc : cS [x] c.args.toList = true)
    (hu : (c.argTypes[0]?).bind P.underlying = some .string) (he : dO μ (aA A μ σ) w e a) (hs : aY A μ σ w) (hx : e x = .d (.str s)) : bN P A μ σ w o a (.d (.int .i64 s.size)) σ n n := by
  obtain ⟨y, hy, hxy⟩ := mT hc
  obtain ⟨t, ht⟩ := lB hsz2
  have hv := he x y hxy
  rw [hx] at hv
  have hm := o8 hv
  have hv := iV hv
  rw [ht] at hu
  simp at hu
  exact .val hs (cv := .int .i64 s.size) (by simp [execOp, ho, resolve, hb, hy, hv, ht, invoke, builtin, Builtin.len_, bT hu, goInt]) (.d _ _ (.int _ _ (lh hm)))
theorem w6 {m : Nat} (hmm : m ≤ 65536) {c : Call} (ho : o.op = .call c) (hb : c.callee = .builtin .len) (hsz : c.args.size = 1) (hsz2 : c.argTypes.size = 1)
    (hu : (∃ el, (c.argTypes[0]?).bind P.underlying = some (.array m el)) ∨ ∃ q el, (c.argTypes[0]?).bind P.underlying = some (.pointer q) ∧ P.underlying q = some (.array m el)) (hs : aY A μ σ w) :
    bN P A μ σ w o a (.d (.int .i64 m)) σ n n := by
  obtain ⟨t, ht⟩ := lB hsz2
  obtain ⟨y, hy⟩ : ∃ y, c.args = #[y] := by
    obtain ⟨callee, ⟨args⟩, ts⟩ := c
    match args, hsz with
    | [y], _ => exact ⟨y, rfl⟩
  rw [ht] at hu
  simp at hu
  rcases hu with ⟨el, hu⟩ | ⟨q, hu, el, hq⟩
  · refine .val hs (cv := .int .i64 m) ?_ (.d _ _ (.int _ _ (lh (by unfold maxLen; omega))))
    simp only [execOp, ho, resolve, hb, hy, ht, invoke, builtin, Builtin.len_]
    simp [bT hu, goInt]
  · refine .val hs (cv := .int .i64 m) ?_ (.d _ _ (.int _ _ (lh (by unfold maxLen; omega))))
    simp only [execOp, ho, resolve, hb, hy, ht, invoke, builtin, Builtin.len_]
    simp [bT hu, bT hq, goInt]
theorem w7 {x x' : AX} {c : Call} {k : IntKind} {i j : Int} (ho : o.op = .call c) (hb : c.callee = .builtin .min) (hc : cS [x, x'] c.args.toList = true)
    (he : dO μ (aA A μ σ) w e a) (hs : aY A μ σ w) (hx : e x = .d (.int k i)) (hx' : e x' = .d (.int k j)) : bN P A μ σ w o a (.d (.int k (if j < i then j else i))) σ n n := by
  obtain ⟨y, y', hy, h1, h2⟩ := mU hc
  have h1 := he x y h1
  have h2 := he x' y' h2
  rw [hx] at h1; rw [hx'] at h2
  have r1 := ku h1
  have r2 := ku h2
  have h1 := fe h1
  have h2 := fe h2
  exact .val hs (cv := .int k (if j < i then j else i)) (by simp [execOp, ho, resolve, hb, hy, h1, h2, invoke, builtin, Builtin.min_, Builtin.min2]) (.d _ _ (.int _ _ (by split <;> assumption)))
theorem w8 {x x' : AX} {c : Call} {k : IntKind} {i j : Int} (ho : o.op = .call c) (hb : c.callee = .builtin .max) (hc : cS [x, x'] c.args.toList = true)
    (he : dO μ (aA A μ σ) w e a) (hs : aY A μ σ w) (hx : e x = .d (.int k i)) (hx' : e x' = .d (.int k j)) : bN P A μ σ w o a (.d (.int k (if j > i then j else i))) σ n n := by
  obtain ⟨y, y', hy, h1, h2⟩ := mU hc
  have h1 := he x y h1
  have h2 := he x' y' h2
  rw [hx] at h1; rw [hx'] at h2
  have r1 := ku h1
  have r2 := ku h2
  have h1 := fe h1
  have h2 := fe h2
  exact .val hs (cv := .int k (if j > i then j else i)) (by simp [execOp, ho, resolve, hb, hy, h1, h2, invoke, builtin, Builtin.max_, Builtin.max2]) (.d _ _ (.int _ _ (by split <;> assumption)))
end
end Go.AM
