import Derived.Test.YtnnkfanmokeiaaaAmOps2
set_option linter.unusedVariables false
set_option linter.unusedSectionVars false
set_option linter.unusedSimpArgs false
namespace Go.AM
open Go Go.RowKit
variable [Glob]
section
variable {P : Program} {A : Nat → Nat → Prop} {μ : Nat → Option bv} {σ σ' : aE} {w : World} {o : Oper} {a : Act} {v : V} {n n' : Nat} {e : AX → V}
theorem sb {own : Nat → Nat → Prop} {t : TypeId} {k : Option Nat} (ht : bZ P t = some k) {ds : List D} {cs : Array Value} (hl : ds.length = cs.size)
    (hr : ∀ (i : Nat) d v, ds[i]? = some d → cs[i]? = some v → DRel own w d v) {j : Nat} {x : D} (hx : dU ds j k = some x) :
    ∃ v, (part t cs j).run P w = .ok v w ∧ DRel own w x v := by
  obtain ⟨h1, h2, _⟩ := eo (w := w) ht
  cases k with
  | none =>
    have hj : j < cs.size := by have := (List.getElem?_eq_some_iff.1 hx).1; omega
    exact ⟨cs[j], by simp [part, h1, hj], hr j x _ hx (by simp [hj])⟩
  | some m =>
    simp only [dU] at hx
    split at hx
    · rename_i hm
      cases hx
      refine ⟨.agg (cs.extract j (j + m)), by simp [part, h1, h2], .agg _ _ (by simp; omega) fun i d v hd hv => ?_⟩
      have hi : i < m := by have := (List.getElem?_eq_some_iff.1 hd).1; simp at this; omega
      rw [List.getElem?_take, if_pos hi, List.getElem?_drop] at hd
      refine hr (j + i) d v hd ?_
      rw [Array.getElem?_extract] at hv
      split at hv
      · exact hv
      · cases hv
    · cases hx
theorem sd {O : Nat → Nat → Prop} {t : TypeId} {k : Option Nat} (ht : bZ P t = some k) {ds : List V} {cs : Array Value} (hl : ds.length = cs.size)
    (hr : ∀ (i : Nat) d v, ds[i]? = some d → cs[i]? = some v → aI μ O w d v) {j : Nat} {x : V} (hx : fB ds j k = some x) :
    ∃ v, (part t cs j).run P w = .ok v w ∧ aI μ O w x v := by
  obtain ⟨h1, h2, _⟩ := eo (w := w) ht
  cases k with
  | none =>
    have hj : j < cs.size := by have := (List.getElem?_eq_some_iff.1 hx).1; omega
    exact ⟨cs[j], by simp [part, h1, hj], hr j x _ hx (by simp [hj])⟩
  | some m =>
    simp only [fB] at hx
    split at hx
    · rename_i hm
      cases hx
      refine ⟨.agg (cs.extract j (j + m)), by simp [part, h1, h2], mI (by simp; omega) fun i d v hd hv => ?_⟩
      have hi : i < m := by have := (List.getElem?_eq_some_iff.1 hd).1; simp at this; omega
      rw [List.getElem?_take, if_pos hi, List.getElem?_drop] at hd
      refine hr (j + i) d v hd ?_
      rw [Array.getElem?_extract] at hv
      split at hv
      · exact hv
      · cases hv
    · cases hx
theorem se {off : Nat} {k : Option Nat} {x : AX} {y : Operand} {s : TypeId} {f : Nat} {fs : Array Field} {fl : Field} (ho : o.op = .field s y f) (hu : P.underlying s = some (.struct fs)) (hf : fs[f]? = some fl)
    (hoff : fl.offset = off) (ht : bZ P fl.type = some k) (he : aI μ (ax A μ σ) w (e x) (a.eval y)) (hs : aT A μ σ w)
    (hv : (∃ cs z, e x = .d (.agg cs) ∧ dU cs off k = some z ∧ v = .d z) ∨ (∃ cs, e x = .agg cs ∧ fB cs off k = some v)) : bL P A μ σ w o a v σ n n := by
  generalize hav : a.eval y = u at he
  subst hoff
  rcases hv with ⟨cs, z, hx, hz, rfl⟩ | ⟨cs, hx, hz⟩ <;> rw [hx] at he
  · cases he with
    | d _ _ hd =>
      cases hd with
      | agg _ c hl hr =>
        obtain ⟨r, h1, h2⟩ := sb (P := P) ht hl hr hz
        exact .val hs (cv := r) (by simp [execOp, ho, hav, Instr.field, bQ hu, hf, asAgg, h1]) (.d _ _ h2)
  · cases he with
    | agg _ c hl hr =>
      obtain ⟨r, h1, h2⟩ := sd (P := P) ht hl hr hz
      exact .val hs (cv := r) (by simp [execOp, ho, hav, Instr.field, bQ hu, hf, asAgg, h1]) h2
theorem sf {m : Nat} {k : Option Nat} {x i : AX} {y j : Operand} {t el : TypeId} (ho : o.op = .index t y j) (hu : P.underlying t = some (.array m el)) (ht : bZ P el = some k)
    (he : aI μ (ax A μ σ) w (e x) (a.eval y)) (hi : aI μ (ax A μ σ) w (e i) (a.eval j)) (hs : aT A μ σ w) {q : IntKind} {ix : Int} (hix : e i = .d (.int q ix)) (h0 : 0 ≤ ix) (hm : ix < m)
    (hv : (∃ cs z, e x = .d (.agg cs) ∧ dU cs (ix.toNat * al k) k = some z ∧ v = .d z) ∨ (∃ cs, e x = .agg cs ∧ fB cs (ix.toNat * al k) k = some v)) : bL P A μ σ w o a v σ n n := by
  rw [hix] at hi
  have hi' := eY hi
  obtain ⟨_, hsz, _⟩ := eo (w := w) ht
  generalize hav : a.eval y = u at he
  rcases hv with ⟨cs, z, hx, hz, rfl⟩ | ⟨cs, hx, hz⟩ <;> rw [hx] at he
  · cases he with
    | d _ _ hd =>
      cases hd with
      | agg _ c hl hr =>
        obtain ⟨r, h1, h2⟩ := sb (P := P) ht hl hr hz
        exact .val hs (cv := r) (by simp [execOp, ho, hav, hi', Instr.index, asIntOf, bQ hu, h0, hm, hsz, h1]) (.d _ _ h2)
  · cases he with
    | agg _ c hl hr =>
      obtain ⟨r, h1, h2⟩ := sd (P := P) ht hl hr hz
      exact .val hs (cv := r) (by simp [execOp, ho, hav, hi', Instr.index, asIntOf, bQ hu, h0, hm, hsz, h1]) h2
theorem ko {t : TypeId} (h : fT P t = true) : P.underlying t = some .string := by
  unfold fT at h; split at h <;> first | assumption | cases h
theorem wQ {x i : AX} {y j : Operand} {t : TypeId} (ho : o.op = .index t y j) (hu : fT P t = true) (he : aI μ (ax A μ σ) w (e x) (a.eval y)) (hi : aI μ (ax A μ σ) w (e i) (a.eval j))
    (hs : aT A μ σ w) {s : ByteArray} {q : IntKind} {ix : Int} {b : UInt8} (hx : e x = .d (.str s)) (hix : e i = .d (.int q ix)) (h0 : 0 ≤ ix) (hb : s.data.toList[ix.toNat]? = some b) :
    bL P A μ σ w o a (.d (.int .u8 b.toNat)) σ n n := by
  rw [hix] at hi
  rw [hx] at he
  have hi' := eY hi
  have hx' := iP he
  have hb' : s[ix.toNat]? = some b := by
    rw [Array.getElem?_toList] at hb
    obtain ⟨hlt, hh⟩ := Array.getElem?_eq_some_iff.1 hb
    have hlt' : ix.toNat < s.size := hlt
    rw [getElem?_pos s ix.toNat hlt']
    exact congrArg some hh
  refine .val hs (cv := .int .u8 b.toNat) ?_ (.d _ _ (.int _ _ (rT b)))
  simp [execOp, ho, hi', hx', Instr.index, asIntOf, bQ (ko hu), h0, hb']
theorem sg {x : AX} {y : Operand} {i : Nat} (ho : o.op = .extract y i) (he : aI μ (ax A μ σ) w (e x) (a.eval y)) (hs : aT A μ σ w)
    (hv : (∃ ds z, e x = .d (.tup ds) ∧ ds[i]? = some z ∧ v = .d z) ∨ (∃ vs, e x = .tup vs ∧ vs[i]? = some v)) : bL P A μ σ w o a v σ n n := by
  generalize hav : a.eval y = u at he
  rcases hv with ⟨cs, z, hx, hz, rfl⟩ | ⟨cs, hx, hz⟩ <;> rw [hx] at he
  · cases he with
    | d _ _ hd =>
      cases hd with
      | tup _ c hl hr =>
        have hj : i < c.size := by have := (List.getElem?_eq_some_iff.1 hz).1; omega
        exact .val hs (cv := c[i]) (by simp [execOp, ho, hav, Instr.extract, hj]) (.d _ _ (hr i z _ hz (by simp [hj])))
  · cases he with
    | tup _ c hl hr =>
      have hj : i < c.size := by have := (List.getElem?_eq_some_iff.1 hz).1; omega
      exact .val hs (cv := c[i]) (by simp [execOp, ho, hav, Instr.extract, hj]) (hr i v _ hz (by simp [hj]))
theorem wR {k q : IntKind} {i : Int} {x : AX} {y : Operand} {s t : TypeId} (ho : o.op = .convert s t y) (hsu : (P.underlying s).isSome = true) (ht : P.underlying t = some (.int k))
    (he : aI μ (ax A μ σ) w (e x) (a.eval y)) (hx : e x = .d (.int q i)) (hs : aT A μ σ w) : bL P A μ σ w o a (.d (.int k (k.wrap i))) σ n n := by
  rw [hx] at he
  have hx' := eY he
  obtain ⟨u, hu⟩ := Option.isSome_iff_exists.1 hsu
  exact .val hs (cv := .int k (k.wrap i)) (by simp [execOp, ho, hx', convert, bQ hu, bQ ht, Conv.intToInt]) (.d _ _ (.int _ _ (k7 _ _)))
theorem wS {b : ByteArray} {x : AX} {y : Operand} {s t : TypeId} (ho : o.op = .convert s t y) (hsu : fT P s = true) (ht : fT P t = true)
    (he : aI μ (ax A μ σ) w (e x) (a.eval y)) (hx : e x = .d (.str b)) (hs : aT A μ σ w) : bL P A μ σ w o a (.d (.str b)) σ n n := by
  rw [hx] at he
  have hr := o6 he
  have hx' := iP he
  exact .val hs (cv := .string b) (by simp [execOp, ho, hx', convert, bQ (ko hsu), bQ (ko ht)]) (.d _ _ (.str _ hr))
theorem wT {op : UnOp} {x : AX} {y : Operand} {t : TypeId} (ho : o.op = .unOp op t y) (he : aI μ (ax A μ σ) w (e x) (a.eval y)) (hv : mD op (e x) = some v) (hs : aT A μ σ w) :
    bL P A μ σ w o a v σ n n := by
  unfold mD at hv
  split at hv
  · rename_i b hx
    cases hv
    rw [hx] at he
    have hx' := jF he
    exact .val hs (cv := .bool (!b)) (by simp [execOp, ho, hx', Op.unary]) (.d _ _ (.bool _))
  · rename_i k i hx
    cases hv
    rw [hx] at he
    have hx' := eY he
    exact .val hs (cv := .int k (k.wrap (0 - i))) (by simp [execOp, ho, hx', Op.unary, Op.intArith]) (.d _ _ (.int _ _ (k7 _ _)))
  · cases hv
theorem sh : ∀ {xs : List AX} {ys : List Operand}, cL xs ys = true → xs.length = ys.length ∧ ∀ (i : Nat) x y, xs[i]? = some x → ys[i]? = some y → bK x y = true
  | [], [], _ => ⟨rfl, fun i x y h => by simp at h⟩
  | x :: l, y :: r, h => by
    simp only [cL, Bool.and_eq_true] at h
    obtain ⟨hl, ih⟩ := sh h.2
    refine ⟨by simp [hl], fun i u v hu hv => ?_⟩
    cases i with
    | zero => simp at hu hv; subst hu; subst hv; exact h.1
    | succ i => exact ih i u v (by simpa using hu) (by simpa using hv)
  | [], _ :: _, h => by simp [cL] at h
  | _ :: _, [], h => by simp [cL] at h
theorem dK.list {O : Nat → Nat → Prop} (he : dK μ O w e a) {xs : List AX} {ys : Array Operand} (h : cL xs ys.toList = true) :
    (xs.map e).length = (ys.map a.eval).size ∧ ∀ (i : Nat) x v, (xs.map e)[i]? = some x → (ys.map a.eval)[i]? = some v → aI μ O w x v := by
  obtain ⟨hl, hr⟩ := sh h
  refine ⟨by simpa using hl, fun i x v hx hv => ?_⟩
  simp only [List.getElem?_map, Array.getElem?_map] at hx hv
  cases hxi : xs[i]? with
  | none => simp [hxi] at hx
  | some x0 =>
    cases hyi : ys[i]? with
    | none => simp [hyi] at hv
    | some y0 =>
      simp [hxi, hyi] at hx hv
      subst hx; subst hv
      exact he _ _ (hr i x0 y0 hxi (by simpa using hyi))
theorem si {f : Nat} {caps : List AX} {captured first : Array Operand} (ho : o.op = .makeFunc (.func f) first captured) (hf : first.size = 0) (hc : cL caps captured.toList = true)
    (he : dK μ (ax A μ σ) w e a) (hs : aT A μ σ w)
    (hv : (∃ ds, bX (caps.map fun x => (e x).toD) = some ds ∧ v = .d (.func f ds)) ∨ v = .func f (caps.map e)) : bL P A μ σ w o a v σ n n := by
  obtain ⟨hl, hr⟩ := he.list hc
  have e0 : first = #[] := Array.eq_empty_of_size_eq_zero hf
  subst e0
  refine .val hs (cv := .func (.func f) #[] (captured.map a.eval)) (by simp [execOp, ho, Instr.makeFunc]) ?_
  rcases hv with ⟨ds, hd, rfl⟩ | rfl
  · have hd' : bX ((caps.map e).map V.toD) = some ds := by rw [List.map_map]; exact hd
    have ed := km hd'
    rw [ed] at hl hr
    refine .d _ _ (.func f ds _ (by simpa using hl) fun i d v hdi hvi => ?_)
    have := hr i (.d d) v (by simp [hdi]) hvi
    cases this with | d _ _ h => exact h
  · exact .func f _ _ hl hr
theorem mN {c : Call} {x : AX} (hc : cL [x] c.args.toList = true) : ∃ y, c.args = #[y] ∧ bK x y = true := by
  obtain ⟨callee, ⟨args⟩, argTypes⟩ := c
  match args, hc with
  | [y], hc => exact ⟨y, rfl, by simpa [cL] using hc⟩
  | [], hc => simp [cL] at hc
  | y :: z :: r, hc => simp [cL] at hc
theorem mO {c : Call} {x x' : AX} (hc : cL [x, x'] c.args.toList = true) : ∃ y y', c.args = #[y, y'] ∧ bK x y = true ∧ bK x' y' = true := by
  obtain ⟨callee, ⟨args⟩, argTypes⟩ := c
  match args, hc with
  | [y, y'], hc => exact ⟨y, y', rfl, by simpa [cL] using hc⟩
  | [], hc => simp [cL] at hc
  | [y], hc => simp [cL] at hc
  | y :: z :: u :: r, hc => simp [cL] at hc
theorem wU {O : Nat → Nat → Prop} {x : V} {u : Value} {m : Nat} (h : aI μ O w x u) (hx : (∃ k vs, x = .d (.vec k vs) ∧ m = vs.length) ∨ (x = .d .nils ∧ m = 0) ∨ (∃ id off, x = .loc id off m)) : (∃ p c, u = .slice p m c) ∧ m ≤ maxLen := by
  rcases hx with ⟨k, vs, rfl, rfl⟩ | ⟨rfl, rfl⟩ | ⟨id, off, rfl⟩
  · cases h with | d _ _ hd => cases hd with
      | vecn k a => exact ⟨⟨_, _, rfl⟩, Nat.zero_le _⟩
      | vec _ _ _ _ _ _ hc => exact ⟨⟨_, _, rfl⟩, Nat.le_trans hc.1 hc.2⟩
  · exact ⟨⟨_, _, mL h⟩, Nat.zero_le _⟩
  · cases h with
    | loc0 => exact ⟨⟨_, _, rfl⟩, Nat.zero_le _⟩
    | loc _ _ _ _ _ _ _ h1 h2 => exact ⟨⟨_, _, rfl⟩, Nat.le_trans h1 h2⟩
theorem lw {c : Call} (h : c.argTypes.size = 1) : ∃ t, c.argTypes = #[t] := by
  obtain ⟨callee, args, ⟨ts⟩⟩ := c
  match ts, h with
  | [t], _ => exact ⟨t, rfl⟩
theorem sk {c : Call} (h : c.argTypes.size = 2) : ∃ t u, c.argTypes = #[t, u] := by
  obtain ⟨callee, args, ⟨ts⟩⟩ := c
  match ts, h with
  | [t, u], _ => exact ⟨t, u, rfl⟩
theorem o7 {x : AX} {c : Call} {el : TypeId} (ho : o.op = .call c) (hb : c.callee = .builtin .len) (hsz2 : c.argTypes.size = 1) (hc : cL [x] c.args.toList = true)
    (hu : (c.argTypes[0]?).bind P.underlying = some (.slice el)) (he : dK μ (ax A μ σ) w e a) (hs : aT A μ σ w) {m : Nat}
    (hx : (∃ k vs, e x = .d (.vec k vs) ∧ m = vs.length) ∨ (e x = .d .nils ∧ m = 0) ∨ (∃ id off, e x = .loc id off m)) : bL P A μ σ w o a (.d (.int .i64 m)) σ n n := by
  obtain ⟨y, hy, hxy⟩ := mN hc
  obtain ⟨t, ht⟩ := lw hsz2
  obtain ⟨⟨p, cp, hv⟩, hm⟩ := wU (he x y hxy) hx
  rw [ht] at hu
  simp at hu
  exact .val hs (cv := .int .i64 m) (by simp [execOp, ho, resolve, hb, hy, hv, ht, invoke, builtin, Builtin.len_, bQ hu, goInt]) (.d _ _ (.int _ _ (k8 hm)))
theorem wV {x : AX} {c : Call} {s : ByteArray} (ho : o.op = .call c) (hb : c.callee = .builtin .len) (hsz2 : c.argTypes.size = 1) (hc : cL [x] c.args.toList = true)
    (hu : (c.argTypes[0]?).bind P.underlying = some .string) (he : dK μ (ax A μ σ) w e a) (hs : aT A μ σ w) (hx : e x = .d (.str s)) : bL P A μ σ w o a (.d (.int .i64 s.size)) σ n n := by
  obtain ⟨y, hy, hxy⟩ := mN hc
  obtain ⟨t, ht⟩ := lw hsz2
  have hv := he x y hxy
  rw [hx] at hv
  have hm := o6 hv
  have hv := iP hv
  rw [ht] at hu
  simp at hu
  exact .val hs (cv := .int .i64 s.size) (by simp [execOp, ho, resolve, hb, hy, hv, ht, invoke, builtin, Builtin.len_, bQ hu, goInt]) (.d _ _ (.int _ _ (k8 hm)))
theorem wW {m : Nat} (hmm : m ≤ 65536) {c : Call} (ho : o.op = .call c) (hb : c.callee = .builtin .len) (hsz : c.args.size = 1) (hsz2 : c.argTypes.size = 1)
    (hu : (∃ el, (c.argTypes[0]?).bind P.underlying = some (.array m el)) ∨ ∃ q el, (c.argTypes[0]?).bind P.underlying = some (.pointer q) ∧ P.underlying q = some (.array m el)) (hs : aT A μ σ w) :
    bL P A μ σ w o a (.d (.int .i64 m)) σ n n := by
  obtain ⟨t, ht⟩ := lw hsz2
  obtain ⟨y, hy⟩ : ∃ y, c.args = #[y] := by
    obtain ⟨callee, ⟨args⟩, ts⟩ := c
    match args, hsz with
    | [y], _ => exact ⟨y, rfl⟩
  rw [ht] at hu
  simp at hu
  rcases hu with ⟨el, hu⟩ | ⟨q, hu, el, hq⟩
  · refine .val hs (cv := .int .i64 m) ?_ (.d _ _ (.int _ _ (k8 (by unfold maxLen; omega))))
    simp only [execOp, ho, resolve, hb, hy, ht, invoke, builtin, Builtin.len_]
    simp [bQ hu, goInt]
  · refine .val hs (cv := .int .i64 m) ?_ (.d _ _ (.int _ _ (k8 (by unfold maxLen; omega))))
    simp only [execOp, ho, resolve, hb, hy, ht, invoke, builtin, Builtin.len_]
    simp [bQ hu, bQ hq, goInt]
theorem wX {x x' : AX} {c : Call} {k : IntKind} {i j : Int} (ho : o.op = .call c) (hb : c.callee = .builtin .min) (hc : cL [x, x'] c.args.toList = true)
    (he : dK μ (ax A μ σ) w e a) (hs : aT A μ σ w) (hx : e x = .d (.int k i)) (hx' : e x' = .d (.int k j)) : bL P A μ σ w o a (.d (.int k (if j < i then j else i))) σ n n := by
  obtain ⟨y, y', hy, h1, h2⟩ := mO hc
  have h1 := he x y h1
  have h2 := he x' y' h2
  rw [hx] at h1; rw [hx'] at h2
  have r1 := kn h1
  have r2 := kn h2
  have h1 := eY h1
  have h2 := eY h2
  exact .val hs (cv := .int k (if j < i then j else i)) (by simp [execOp, ho, resolve, hb, hy, h1, h2, invoke, builtin, Builtin.min_, Builtin.min2]) (.d _ _ (.int _ _ (by split <;> assumption)))
theorem wY {x x' : AX} {c : Call} {k : IntKind} {i j : Int} (ho : o.op = .call c) (hb : c.callee = .builtin .max) (hc : cL [x, x'] c.args.toList = true)
    (he : dK μ (ax A μ σ) w e a) (hs : aT A μ σ w) (hx : e x = .d (.int k i)) (hx' : e x' = .d (.int k j)) : bL P A μ σ w o a (.d (.int k (if j > i then j else i))) σ n n := by
  obtain ⟨y, y', hy, h1, h2⟩ := mO hc
  have h1 := he x y h1
  have h2 := he x' y' h2
  rw [hx] at h1; rw [hx'] at h2
  have r1 := kn h1
  have r2 := kn h2
  have h1 := eY h1
  have h2 := eY h2
  exact .val hs (cv := .int k (if j > i then j else i)) (by simp [execOp, ho, resolve, hb, hy, h1, h2, invoke, builtin, Builtin.max_, Builtin.max2]) (.d _ _ (.int _ _ (by split <;> assumption)))
end
end Go.AM
