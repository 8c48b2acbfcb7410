import Derived.Test.YtfjelgjfbjjopaaAmOps2
set_option linter.unusedVariables false
set_option linter.unusedSectionVars false
set_option linter.unusedSimpArgs false
namespace Go.AM
open Go Go.RowKit
variable [Glob]
section
variable {P : Program} {A : Nat → Nat → Prop} {μ : Nat → Option aJ} {σ σ' : au} {w : World} {o : Oper} {a : Act} {v : V} {n n' : Nat} {e : AX → V}
theorem md {own : Nat → Nat → Prop} {t : TypeId} {k : Option Nat} (ht : bp P t = some k) {ds : List D} {cs : Array Value} (hl : ds.length = cs.size)
    (hr : ∀ (i : Nat) d v, ds[i]? = some d → cs[i]? = some v → DRel own w d v) {j : Nat} {x : D} (hx : cI ds j k = some x) :
    ∃ v, (part t cs j).run P w = .ok v w ∧ DRel own w x v := by
  obtain ⟨h1, h2, _⟩ := cH (w := w) ht
  cases k with
  | none =>
    have hj : j < cs.size := by have := (List.getElem?_eq_some_iff.1 hx).1; omega
    exact ⟨cs[j], by simp [part, h1, hj], hr j x _ hx (by simp [hj])⟩
  | some m =>
    simp only [cI] at hx
    split at hx
    · rename_i hm
      cases hx
      refine ⟨.agg (cs.extract j (j + m)), by simp [part, h1, h2], .agg _ _ (by simp; omega) fun i d v hd hv => ?_⟩
      have hi : i < m := by have := (List.getElem?_eq_some_iff.1 hd).1; simp at this; omega
      rw [List.getElem?_take, if_pos hi, List.getElem?_drop] at hd
      refine hr (j + i) d v hd ?_
      rw [Array.getElem?_extract] at hv
      split at hv
      · exact hv
      · cases hv
    · cases hx
theorem me {O : Nat → Nat → Prop} {t : TypeId} {k : Option Nat} (ht : bp P t = some k) {ds : List V} {cs : Array Value} (hl : ds.length = cs.size)
    (hr : ∀ (i : Nat) d v, ds[i]? = some d → cs[i]? = some v → aw μ O w d v) {j : Nat} {x : V} (hx : dz ds j k = some x) :
    ∃ v, (part t cs j).run P w = .ok v w ∧ aw μ O w x v := by
  obtain ⟨h1, h2, _⟩ := cH (w := w) ht
  cases k with
  | none =>
    have hj : j < cs.size := by have := (List.getElem?_eq_some_iff.1 hx).1; omega
    exact ⟨cs[j], by simp [part, h1, hj], hr j x _ hx (by simp [hj])⟩
  | some m =>
    simp only [dz] at hx
    split at hx
    · rename_i hm
      cases hx
      refine ⟨.agg (cs.extract j (j + m)), by simp [part, h1, h2], ji (by simp; omega) fun i d v hd hv => ?_⟩
      have hi : i < m := by have := (List.getElem?_eq_some_iff.1 hd).1; simp at this; omega
      rw [List.getElem?_take, if_pos hi, List.getElem?_drop] at hd
      refine hr (j + i) d v hd ?_
      rw [Array.getElem?_extract] at hv
      split at hv
      · exact hv
      · cases hv
    · cases hx
theorem mf {off : Nat} {k : Option Nat} {x : AX} {y : Operand} {s : TypeId} {f : Nat} {fs : Array Field} {fl : Field} (ho : o.op = .field s y f) (hu : P.underlying s = some (.struct fs)) (hf : fs[f]? = some fl)
    (hoff : fl.offset = off) (ht : bp P fl.type = some k) (he : aw μ (ak A μ σ) w (e x) (a.eval y)) (hs : aB A μ σ w)
    (hv : (∃ cs z, e x = .d (.agg cs) ∧ cI cs off k = some z ∧ v = .d z) ∨ (∃ cs, e x = .agg cs ∧ dz cs off k = some v)) : aZ P A μ σ w o a v σ n n := by
  generalize hav : a.eval y = u at he
  subst hoff
  rcases hv with ⟨cs, z, hx, hz, rfl⟩ | ⟨cs, hx, hz⟩ <;> rw [hx] at he
  · cases he with
    | d _ _ hd =>
      cases hd with
      | agg _ c hl hr =>
        obtain ⟨r, h1, h2⟩ := md (P := P) ht hl hr hz
        exact .val hs (cv := r) (by simp [execOp, ho, hav, Instr.field, bf hu, hf, asAgg, h1]) (.d _ _ h2)
  · cases he with
    | agg _ c hl hr =>
      obtain ⟨r, h1, h2⟩ := me (P := P) ht hl hr hz
      exact .val hs (cv := r) (by simp [execOp, ho, hav, Instr.field, bf hu, hf, asAgg, h1]) h2
theorem mg {m : Nat} {k : Option Nat} {x i : AX} {y j : Operand} {t el : TypeId} (ho : o.op = .index t y j) (hu : P.underlying t = some (.array m el)) (ht : bp P el = some k)
    (he : aw μ (ak A μ σ) w (e x) (a.eval y)) (hi : aw μ (ak A μ σ) w (e i) (a.eval j)) (hs : aB A μ σ w) {q : IntKind} {ix : Int} (hix : e i = .d (.int q ix)) (h0 : 0 ≤ ix) (hm : ix < m)
    (hv : (∃ cs z, e x = .d (.agg cs) ∧ cI cs (ix.toNat * ah k) k = some z ∧ v = .d z) ∨ (∃ cs, e x = .agg cs ∧ dz cs (ix.toNat * ah k) k = some v)) : aZ P A μ σ w o a v σ n n := by
  rw [hix] at hi
  have hi' := cQ hi
  obtain ⟨_, hsz, _⟩ := cH (w := w) ht
  generalize hav : a.eval y = u at he
  rcases hv with ⟨cs, z, hx, hz, rfl⟩ | ⟨cs, hx, hz⟩ <;> rw [hx] at he
  · cases he with
    | d _ _ hd =>
      cases hd with
      | agg _ c hl hr =>
        obtain ⟨r, h1, h2⟩ := md (P := P) ht hl hr hz
        exact .val hs (cv := r) (by simp [execOp, ho, hav, hi', Instr.index, asIntOf, bf hu, h0, hm, hsz, h1]) (.d _ _ h2)
  · cases he with
    | agg _ c hl hr =>
      obtain ⟨r, h1, h2⟩ := me (P := P) ht hl hr hz
      exact .val hs (cv := r) (by simp [execOp, ho, hav, hi', Instr.index, asIntOf, bf hu, h0, hm, hsz, h1]) h2
theorem gA {t : TypeId} (h : dD P t = true) : P.underlying t = some .string := by
  unfold dD at h; split at h <;> first | assumption | cases h
theorem pj {x i : AX} {y j : Operand} {t : TypeId} (ho : o.op = .index t y j) (hu : dD P t = true) (he : aw μ (ak A μ σ) w (e x) (a.eval y)) (hi : aw μ (ak A μ σ) w (e i) (a.eval j))
    (hs : aB A μ σ w) {s : ByteArray} {q : IntKind} {ix : Int} {b : UInt8} (hx : e x = .d (.str s)) (hix : e i = .d (.int q ix)) (h0 : 0 ≤ ix) (hb : s.data.toList[ix.toNat]? = some b) :
    aZ P A μ σ w o a (.d (.int .u8 b.toNat)) σ n n := by
  rw [hix] at hi
  rw [hx] at he
  have hi' := cQ hi
  have hx' := fq he
  have hb' : s[ix.toNat]? = some b := by
    rw [Array.getElem?_toList] at hb
    obtain ⟨hlt, hh⟩ := Array.getElem?_eq_some_iff.1 hb
    have hlt' : ix.toNat < s.size := hlt
    rw [getElem?_pos s ix.toNat hlt']
    exact congrArg some hh
  refine .val hs (cv := .int .u8 b.toNat) ?_ (.d _ _ (.int _ _ (lT b)))
  simp [execOp, ho, hi', hx', Instr.index, asIntOf, bf (gA hu), h0, hb']
theorem mh {x : AX} {y : Operand} {i : Nat} (ho : o.op = .extract y i) (he : aw μ (ak A μ σ) w (e x) (a.eval y)) (hs : aB A μ σ w)
    (hv : (∃ ds z, e x = .d (.tup ds) ∧ ds[i]? = some z ∧ v = .d z) ∨ (∃ vs, e x = .tup vs ∧ vs[i]? = some v)) : aZ P A μ σ w o a v σ n n := by
  generalize hav : a.eval y = u at he
  rcases hv with ⟨cs, z, hx, hz, rfl⟩ | ⟨cs, hx, hz⟩ <;> rw [hx] at he
  · cases he with
    | d _ _ hd =>
      cases hd with
      | tup _ c hl hr =>
        have hj : i < c.size := by have := (List.getElem?_eq_some_iff.1 hz).1; omega
        exact .val hs (cv := c[i]) (by simp [execOp, ho, hav, Instr.extract, hj]) (.d _ _ (hr i z _ hz (by simp [hj])))
  · cases he with
    | tup _ c hl hr =>
      have hj : i < c.size := by have := (List.getElem?_eq_some_iff.1 hz).1; omega
      exact .val hs (cv := c[i]) (by simp [execOp, ho, hav, Instr.extract, hj]) (hr i v _ hz (by simp [hj]))
theorem pk {k q : IntKind} {i : Int} {x : AX} {y : Operand} {s t : TypeId} (ho : o.op = .convert s t y) (hsu : (P.underlying s).isSome = true) (ht : P.underlying t = some (.int k))
    (he : aw μ (ak A μ σ) w (e x) (a.eval y)) (hx : e x = .d (.int q i)) (hs : aB A μ σ w) : aZ P A μ σ w o a (.d (.int k (k.wrap i))) σ n n := by
  rw [hx] at he
  have hx' := cQ he
  obtain ⟨u, hu⟩ := Option.isSome_iff_exists.1 hsu
  exact .val hs (cv := .int k (k.wrap i)) (by simp [execOp, ho, hx', convert, bf hu, bf ht, Conv.intToInt]) (.d _ _ (.int _ _ (hU _ _)))
theorem pm {b : ByteArray} {x : AX} {y : Operand} {s t : TypeId} (ho : o.op = .convert s t y) (hsu : dD P s = true) (ht : dD P t = true)
    (he : aw μ (ak A μ σ) w (e x) (a.eval y)) (hx : e x = .d (.str b)) (hs : aB A μ σ w) : aZ P A μ σ w o a (.d (.str b)) σ n n := by
  rw [hx] at he
  have hr := kg he
  have hx' := fq he
  exact .val hs (cv := .string b) (by simp [execOp, ho, hx', convert, bf (gA hsu), bf (gA ht)]) (.d _ _ (.str _ hr))
theorem pn {op : UnOp} {x : AX} {y : Operand} {t : TypeId} (ho : o.op = .unOp op t y) (he : aw μ (ak A μ σ) w (e x) (a.eval y)) (hv : jd op (e x) = some v) (hs : aB A μ σ w) :
    aZ P A μ σ w o a v σ n n := by
  unfold jd at hv
  split at hv
  · rename_i b hx
    cases hv
    rw [hx] at he
    have hx' := fp he
    exact .val hs (cv := .bool (!b)) (by simp [execOp, ho, hx', Op.unary]) (.d _ _ (.bool _))
  · rename_i k i hx
    cases hv
    rw [hx] at he
    have hx' := cQ he
    exact .val hs (cv := .int k (k.wrap (0 - i))) (by simp [execOp, ho, hx', Op.unary, Op.intArith]) (.d _ _ (.int _ _ (hU _ _)))
  · cases hv
theorem mi : ∀ {xs : List AX} {ys : List Operand}, bM xs ys = true → xs.length = ys.length ∧ ∀ (i : Nat) x y, xs[i]? = some x → ys[i]? = some y → aY x y = true
  | [], [], _ => ⟨rfl, fun i x y h => by simp at h⟩
  | x :: l, y :: r, h => by
    simp only [bM, Bool.and_eq_true] at h
    obtain ⟨hl, ih⟩ := mi h.2
    refine ⟨by simp [hl], fun i u v hu hv => ?_⟩
    cases i with
    | zero => simp at hu hv; subst hu; subst hv; exact h.1
    | succ i => exact ih i u v (by simpa using hu) (by simpa using hv)
  | [], _ :: _, h => by simp [bM] at h
  | _ :: _, [], h => by simp [bM] at h
theorem cx.list {O : Nat → Nat → Prop} (he : cx μ O w e a) {xs : List AX} {ys : Array Operand} (h : bM xs ys.toList = true) :
    (xs.map e).length = (ys.map a.eval).size ∧ ∀ (i : Nat) x v, (xs.map e)[i]? = some x → (ys.map a.eval)[i]? = some v → aw μ O w x v := by
  obtain ⟨hl, hr⟩ := mi h
  refine ⟨by simpa using hl, fun i x v hx hv => ?_⟩
  simp only [List.getElem?_map, Array.getElem?_map] at hx hv
  cases hxi : xs[i]? with
  | none => simp [hxi] at hx
  | some x0 =>
    cases hyi : ys[i]? with
    | none => simp [hyi] at hv
    | some y0 =>
      simp [hxi, hyi] at hx hv
      subst hx; subst hv
      exact he _ _ (hr i x0 y0 hxi (by simpa using hyi))
theorem mj {f : Nat} {caps : List AX} {captured first : Array Operand} (ho : o.op = .makeFunc (.func f) first captured) (hf : first.size = 0) (hc : bM caps captured.toList = true)
    (he : cx μ (ak A μ σ) w e a) (hs : aB A μ σ w)
    (hv : (∃ ds, bu (caps.map fun x => (e x).toD) = some ds ∧ v = .d (.func f ds)) ∨ v = .func f (caps.map e)) : aZ P A μ σ w o a v σ n n := by
  obtain ⟨hl, hr⟩ := he.list hc
  have e0 : first = #[] := Array.eq_empty_of_size_eq_zero hf
  subst e0
  refine .val hs (cv := .func (.func f) #[] (captured.map a.eval)) (by simp [execOp, ho, Instr.makeFunc]) ?_
  rcases hv with ⟨ds, hd, rfl⟩ | rfl
  · have hd' : bu ((caps.map e).map V.toD) = some ds := by rw [List.map_map]; exact hd
    have ed := gx hd'
    rw [ed] at hl hr
    refine .d _ _ (.func f ds _ (by simpa using hl) fun i d v hdi hvi => ?_)
    have := hr i (.d d) v (by simp [hdi]) hvi
    cases this with | d _ _ h => exact h
  · exact .func f _ _ hl hr
theorem jo {c : Call} {x : AX} (hc : bM [x] c.args.toList = true) : ∃ y, c.args = #[y] ∧ aY x y = true := by
  obtain ⟨callee, ⟨args⟩, argTypes⟩ := c
  match args, hc with
  | [y], hc => exact ⟨y, rfl, by simpa [bM] using hc⟩
  | [], hc => simp [bM] at hc
  | y :: z :: r, hc => simp [bM] at hc
theorem jp {c : Call} {x x' : AX} (hc : bM [x, x'] c.args.toList = true) : ∃ y y', c.args = #[y, y'] ∧ aY x y = true ∧ aY x' y' = true := by
  obtain ⟨callee, ⟨args⟩, argTypes⟩ := c
  match args, hc with
  | [y, y'], hc => exact ⟨y, y', rfl, by simpa [bM] using hc⟩
  | [], hc => simp [bM] at hc
  | [y], hc => simp [bM] at hc
  | y :: z :: u :: r, hc => simp [bM] at hc
theorem po {O : Nat → Nat → Prop} {x : V} {u : Value} {m : Nat} (h : aw μ O w x u) (hx : (∃ k vs, x = .d (.vec k vs) ∧ m = vs.length) ∨ (x = .d .nils ∧ m = 0) ∨ (∃ id off, x = .loc id off m)) : (∃ p c, u = .slice p m c) ∧ m ≤ maxLen := by
  rcases hx with ⟨k, vs, rfl, rfl⟩ | ⟨rfl, rfl⟩ | ⟨id, off, rfl⟩
  · cases h with | d _ _ hd => cases hd with
      | vecn k a => exact ⟨⟨_, _, rfl⟩, Nat.zero_le _⟩
      | vec _ _ _ _ _ _ hc => exact ⟨⟨_, _, rfl⟩, Nat.le_trans hc.1 hc.2⟩
  · exact ⟨⟨_, _, jm h⟩, Nat.zero_le _⟩
  · cases h with
    | loc0 => exact ⟨⟨_, _, rfl⟩, Nat.zero_le _⟩
    | loc _ _ _ _ _ _ _ h1 h2 => exact ⟨⟨_, _, rfl⟩, Nat.le_trans h1 h2⟩
theorem ip {c : Call} (h : c.argTypes.size = 1) : ∃ t, c.argTypes = #[t] := by
  obtain ⟨callee, args, ⟨ts⟩⟩ := c
  match ts, h with
  | [t], _ => exact ⟨t, rfl⟩
theorem ml {c : Call} (h : c.argTypes.size = 2) : ∃ t u, c.argTypes = #[t, u] := by
  obtain ⟨callee, args, ⟨ts⟩⟩ := c
  match ts, h with
  | [t, u], _ => exact ⟨t, u, rfl⟩
theorem kh {x : AX} {c : Call} {el : TypeId} (ho : o.op = .call c) (hb : c.callee = .builtin .len) (hsz2 : c.argTypes.size = 1) (hc : bM [x] c.args.toList = true)
    (hu : (c.argTypes[0]?).bind P.underlying = some (.slice el)) (he : cx μ (ak A μ σ) w e a) (hs : aB A μ σ w) {m : Nat}
    (hx : (∃ k vs, e x = .d (.vec k vs) ∧ m = vs.length) ∨ (e x = .d .nils ∧ m = 0) ∨ (∃ id off, e x = .loc id off m)) : aZ P A μ σ w o a (.d (.int .i64 m)) σ n n := by
  obtain ⟨y, hy, hxy⟩ := jo hc
  obtain ⟨t, ht⟩ := ip hsz2
  obtain ⟨⟨p, cp, hv⟩, hm⟩ := po (he x y hxy) hx
  rw [ht] at hu
  simp at hu
  exact .val hs (cv := .int .i64 m) (by simp [execOp, ho, resolve, hb, hy, hv, ht, invoke, builtin, Builtin.len_, bf hu, goInt]) (.d _ _ (.int _ _ (hZ hm)))
theorem pp {x : AX} {c : Call} {s : ByteArray} (ho : o.op = .call c) (hb : c.callee = .builtin .len) (hsz2 : c.argTypes.size = 1) (hc : bM [x] c.args.toList = true)
    (hu : (c.argTypes[0]?).bind P.underlying = some .string) (he : cx μ (ak A μ σ) w e a) (hs : aB A μ σ w) (hx : e x = .d (.str s)) : aZ P A μ σ w o a (.d (.int .i64 s.size)) σ n n := by
  obtain ⟨y, hy, hxy⟩ := jo hc
  obtain ⟨t, ht⟩ := ip hsz2
  have hv := he x y hxy
  rw [hx] at hv
  have hm := kg hv
  have hv := fq hv
  rw [ht] at hu
  simp at hu
  exact .val hs (cv := .int .i64 s.size) (by simp [execOp, ho, resolve, hb, hy, hv, ht, invoke, builtin, Builtin.len_, bf hu, goInt]) (.d _ _ (.int _ _ (hZ hm)))
theorem pr {m : Nat} (hmm : m ≤ 65536) {c : Call} (ho : o.op = .call c) (hb : c.callee = .builtin .len) (hsz : c.args.size = 1) (hsz2 : c.argTypes.size = 1)
    (hu : (∃ el, (c.argTypes[0]?).bind P.underlying = some (.array m el)) ∨ ∃ q el, (c.argTypes[0]?).bind P.underlying = some (.pointer q) ∧ P.underlying q = some (.array m el)) (hs : aB A μ σ w) :
    aZ P A μ σ w o a (.d (.int .i64 m)) σ n n := by
  obtain ⟨t, ht⟩ := ip hsz2
  obtain ⟨y, hy⟩ : ∃ y, c.args = #[y] := by
    obtain ⟨callee, ⟨args⟩, ts⟩ := c
    match args, hsz with
    | [y], _ => exact ⟨y, rfl⟩
  rw [ht] at hu
  simp at hu
  rcases hu with ⟨el, hu⟩ | ⟨q, hu, el, hq⟩
  · refine .val hs (cv := .int .i64 m) ?_ (.d _ _ (.int _ _ (hZ (by unfold maxLen; omega))))
    simp only [execOp, ho, resolve, hb, hy, ht, invoke, builtin, Builtin.len_]
    simp [bf hu, goInt]
  · refine .val hs (cv := .int .i64 m) ?_ (.d _ _ (.int _ _ (hZ (by unfold maxLen; omega))))
    simp only [execOp, ho, resolve, hb, hy, ht, invoke, builtin, Builtin.len_]
    simp [bf hu, bf hq, goInt]
theorem pu {x x' : AX} {c : Call} {k : IntKind} {i j : Int} (ho : o.op = .call c) (hb : c.callee = .builtin .min) (hc : bM [x, x'] c.args.toList = true)
    (he : cx μ (ak A μ σ) w e a) (hs : aB A μ σ w) (hx : e x = .d (.int k i)) (hx' : e x' = .d (.int k j)) : aZ P A μ σ w o a (.d (.int k (if j < i then j else i))) σ n n := by
  obtain ⟨y, y', hy, h1, h2⟩ := jp hc
  have h1 := he x y h1
  have h2 := he x' y' h2
  rw [hx] at h1; rw [hx'] at h2
  have r1 := gy h1
  have r2 := gy h2
  have h1 := cQ h1
  have h2 := cQ h2
  exact .val hs (cv := .int k (if j < i then j else i)) (by simp [execOp, ho, resolve, hb, hy, h1, h2, invoke, builtin, Builtin.min_, Builtin.min2]) (.d _ _ (.int _ _ (by split <;> assumption)))
theorem pv {x x' : AX} {c : Call} {k : IntKind} {i j : Int} (ho : o.op = .call c) (hb : c.callee = .builtin .max) (hc : bM [x, x'] c.args.toList = true)
    (he : cx μ (ak A μ σ) w e a) (hs : aB A μ σ w) (hx : e x = .d (.int k i)) (hx' : e x' = .d (.int k j)) : aZ P A μ σ w o a (.d (.int k (if j > i then j else i))) σ n n := by
  obtain ⟨y, y', hy, h1, h2⟩ := jp hc
  have h1 := he x y h1
  have h2 := he x' y' h2
  rw [hx] at h1; rw [hx'] at h2
  have r1 := gy h1
  have r2 := gy h2
  have h1 := cQ h1
  have h2 := cQ h2
  exact .val hs (cv := .int k (if j > i then j else i)) (by simp [execOp, ho, resolve, hb, hy, h1, h2, invoke, builtin, Builtin.max_, Builtin.max2]) (.d _ _ (.int _ _ (by split <;> assumption)))
end
end Go.AM
