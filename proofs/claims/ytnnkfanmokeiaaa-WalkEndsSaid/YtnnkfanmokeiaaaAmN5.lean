import Derived.Test.YtnnkfanmokeiaaaAmN4
set_option linter.unusedVariables false
set_option linter.unusedSectionVars false
set_option linter.unusedSimpArgs false
namespace Go.AM
open Go Go.RowKit
variable [Glob]
def eL {α : Type} (k : Option Nat) (e : α → D) (l : List α) : D := .vec k (l.map e)
def b9 {α : Type} (e : α → D) (a : A2 α) : D := .agg ((e a.a0).cells ++ ((e a.a1).cells ++ []))
def eA8 {α : Type} (e : α → D) (a : A8 α) : D := .agg ((e a.a0).cells ++ ((e a.a1).cells ++ ((e a.a2).cells ++ ((e a.a3).cells ++ ((e a.a4).cells ++ ((e a.a5).cells ++ ((e a.a6).cells ++ ((e a.a7).cells ++ []))))))))
def my (P : Program) {α β : Type} (g : D) (ea : α → D) (er : β → D) (f : α → Option β) : Prop := ∃ fn caps, g = .func fn caps ∧ ∀ a r, f a = some r → PCall P fn ([ea a] ++ caps) (er r)
def jP (P : Program) {α γ β : Type} (g : D) (ea : α → D) (eb : γ → D) (er : β → D) (f : α → γ → Option β) : Prop := ∃ fn caps, g = .func fn caps ∧ ∀ a b r, f a b = some r → PCall P fn ([ea a, eb b] ++ caps) (er r)
section
variable {P : Program} {N na : Nat} {A : Nat → Nat → Prop} {μ μ' : Nat → Option bg} {T T' : Nat → V} {σ σ' : az} {w w' : World} {a : Act} {n n' : Nat} {l : List bo} {dst : Option Nat} {op : a9} {K : S → Prop} {α : Type} {e : α → D} {x y lo hi : AX} {k : Option Nat}
theorem iA {l : List α} {i : Int} {v : α} (h : bC l i = some v) : 0 ≤ i ∧ l[i.toNat]? = some v := by
  unfold bC at h; split at h
  · exact ⟨by assumption, h⟩
  · cases h
theorem iB {l : List α} {i : Int} {v : α} (h : bC l i = some v) : 0 ≤ i ∧ i.toNat < l.length := by
  obtain ⟨h0, h1⟩ := iA h
  exact ⟨h0, (List.getElem?_eq_some_iff.1 h1).1⟩
theorem gU {l r : List α} {i : Int} {v : α} (h : de l i v = some r) : 0 ≤ i ∧ i.toNat < l.length ∧ r = l.set i.toNat v := by
  unfold de at h; split at h
  · split at h
    · cases h; exact ⟨by assumption, by assumption, rfl⟩
    · cases h
  · cases h
theorem jQ {l r : List α} {i : Int} {v : α} (h : de l i v = some r) : r.length = l.length := by rw [(gU h).2.2, List.length_set]
theorem ql {xs ys zs : List α} (h : du xs ys = some zs) : xs.length + ys.length ≤ 4294967296 ∧ zs = xs ++ ys := by
  unfold du at h; split at h
  · cases h; exact ⟨by assumption, rfl⟩
  · cases h
theorem qm {l : List α} {i : Nat} {v : α} (h : l[i]? = some v) : (l.map e)[i]? = some (e v) := by rw [List.getElem?_map, h]; rfl
theorem b4 {xs : List α} {i : Int} {v : α} {kk : IntKind} (h : bC xs i = some v) (hx : aE T x = .d (.vec k (xs.map e))) (hy : aE T y = .d (.int kk i)) : aB (.iaddr k x y) (aE T) σ n = some (.d (.cptr k (e v) 0), σ, n) := by
  obtain ⟨h0, h1⟩ := iA h
  simp [aB, hx, hy, h0, qm h1]
theorem fo {xs : List α} {i : Int} {v : α} {kk : IntKind} {id len : Nat} {m : Bool} (h : bC xs i = some v) (hx : aE T x = .loc id 0 len) (hid : σ id = some (.lst m k (xs.map e))) (hl : len = xs.length) (hy : aE T y = .d (.int kk i)) : aB (.iaddr k x y) (aE T) σ n = some (.ptr id i.toNat 0, σ, n) := by
  obtain ⟨h0, h1⟩ := iB h
  have hk : cf σ (.loc id 0 len) = some k := by simp [cf, hid]
  have h2 : i < (len : Int) := by omega
  simp [aB, hx, hy, h0, hk, h2]
theorem gi {xs : List α} {i : Int} {v : α} {id j : Nat} {m : Bool} {kb : Option Nat} {d : D} (h : bC xs i = some v) (hx : aE T x = .ptr id i.toNat j) (hid : σ id = some (.lst m kb (xs.map e))) (hd : dA kb (e v) j k = some d) : aB (.load k x) (aE T) σ n = some (.d d, σ, n) := by
  obtain ⟨h0, h1⟩ := iA h
  simp [aB, cd, hx, hid, h1, hd]
theorem mz {xs xs' : List α} {i : Int} {v' : α} {id : Nat} {kb : Option Nat} (h' : de xs i v' = some xs') (hx : aE T x = .ptr id i.toNat 0) (hy : aE T y = .d (e v')) (hid : σ id = some (.lst true kb (xs.map e))) (hs : (e v').shape kb = true) (h1 : (e v').cells.all D.one = true) :
    aB (.store kb x y) (aE T) σ n = some (V.undef, ak σ id (some (.lst true kb (xs'.map e))), n) := by
  obtain ⟨h0, hlt, rfl⟩ := gU h'
  obtain ⟨v, hv⟩ : ∃ v, xs[i.toNat]? = some v := ⟨xs[i.toNat], by simp [hlt]⟩
  have hd : fz kb (e v) 0 kb (e v') = some (e v') := by unfold fz; rw [if_pos ⟨hs, h1⟩]; simp
  simp only [aB, dK, hx, hy, hid, List.getElem?_map, hv, Option.map_some, hd, List.map_set]
theorem jR {op : a9} {v v' : V} {σ' : az} {n' : Nat} (h : aB op (aE T) σ n = some (v, σ', n')) (hv : v = v') : aB op (aE T) σ n = some (v', σ', n') := hv ▸ h
theorem fp {xs : List α} {i : Int} {v : α} {kk : IntKind} {dv : D} (h : bC xs i = some v) (hx : aE T x = .d (.vec k (xs.map e))) (hy : aE T y = .d (.int kk i)) (hu : e v = dv) : aB (.iaddr k x y) (aE T) σ n = some (.d (.cptr k dv 0), σ, n) := by
  rw [← hu]; exact b4 h hx hy
theorem qn {s : ByteArray} {i b : Int} {kk : IntKind} (h : jM s i = some b) (hx : aE T x = .d (.str s)) (hy : aE T y = .d (.int kk i)) : aB (.idxS x y) (aE T) σ n = some (.d (.int .u8 b), σ, n) := by
  unfold jM at h
  split at h
  · rename_i h0
    cases hq : s.data.toList[i.toNat]? with
    | none => rw [hq] at h; cases h
    | some q => rw [hq] at h; cases h; simp only [aB, hx, hy, if_pos h0, hq]
  · cases h
def eD (T : Nat → V) (d : Int) : Option AX → Int → Prop
  | none, i => i = d
  | some x, i => ∃ k, aE T x = .d (.int k i)
theorem jS {len : Nat} {lo hi : Option AX} {a b : Int} (hl : eD T 0 lo a) (hh : eD T len hi b) (h : 0 ≤ a ∧ a ≤ b ∧ b ≤ len) : dl len (lo.map (aE T)) (hi.map (aE T)) = some (a.toNat, b.toNat) := by
  unfold dl
  cases lo with
  | none =>
    simp [eD] at hl; subst hl
    cases hi with
    | none => simp [eD] at hh; subst hh; simp
    | some y => obtain ⟨k, hk⟩ := hh; simp [hk, eJ, h]
  | some x =>
    obtain ⟨k, hk⟩ := hl
    cases hi with
    | none => simp [eD] at hh; subst hh; simp [hk, eJ, h]
    | some y => obtain ⟨k', hk'⟩ := hh; simp [hk, hk', eJ, h]
theorem qo {xs ys : List α} {lo hi : Option AX} {a b : Int} (h : eg xs a b = some ys) (hx : aE T x = .d (.vec k (xs.map e))) (hl : eD T 0 lo a) (hh : eD T xs.length hi b) : aB (.slc k x lo hi) (aE T) σ n = some (.d (.vec k (ys.map e)), σ, n) := by
  unfold eg at h
  split at h
  · rename_i hc
    cases h
    have hb := jS (len := (xs.map e).length) (T := T) (lo := lo) (hi := hi) (a := a) (b := b) hl (by simpa using hh) (by simpa using hc)
    simp only [aB, hx, if_true, hb, List.map_take, List.map_drop]
  · cases h
theorem eP {xs : List α} (hx : aE T x = .d (.vec k (xs.map e))) : eX σ k (aE T x) = some (xs.map e) := by
  rw [hx]; simp [eX, dM, cf, c8]
theorem eQ {xs ys zs : List α} {id len : Nat} {m m' : Bool} (h : du xs ys = some zs) (hx : aE T x = .loc id 0 len) (hid : σ id = some (.lst m k (xs.map e))) (hl : len = xs.length) (hy : eX σ k (aE T y) = some (ys.map e)) :
    aB (.append k x y m') (aE T) σ n = some (.loc n 0 zs.length, ak (ak σ id none) n (some (.lst m k (zs.map e))), n + 1) := by
  obtain ⟨h1, rfl⟩ := ql h
  subst hl
  simp only [aB, c9, hy, hx, hid]
  simp [eo, h1]
theorem qp {xs : List α} {z : α} {l c : Int} (h : gT l z = some xs) (hx : aE T x = .d (.int .i64 l)) (hy : aE T y = .d (.int .i64 c)) (hc : l ≤ c ∧ c ≤ 4294967296) :
    aB (.mkslF k (e z) x y) (aE T) σ n = some (.loc n 0 xs.length, ak σ n (some (.lst false k (xs.map e))), n + 1) := by
  unfold gT at h
  split at h
  · rename_i hh
    cases h
    simp only [aB, hx, hy, if_pos (show 0 ≤ l ∧ l ≤ c ∧ c ≤ 4294967296 from ⟨hh.1, hc.1, hc.2⟩)]
    simp
  · cases h
theorem qr {zero : List D} {xs : List α} {id off len : Nat} {k : Option Nat} (hx : aE T x = .loc id off len) (hid : σ id = some (.lst true k (xs.map e))) (hl : off + len = xs.length) :
    aB (.clear k zero x) (aE T) σ n = some (.d (.tup []), ak σ id (some (.lst true k ((xs.take off).map e))), n) := by
  simp only [aB, hx, hid, List.map_take]
  rw [if_pos ⟨trivial, by simpa using hl⟩]
theorem jT {xs ys : List α} {a b : Int} (h : eg xs a b = some ys) : (0 ≤ a ∧ a ≤ b ∧ b ≤ xs.length) ∧ ys = (xs.drop a.toNat).take (b.toNat - a.toNat) := by
  unfold eg at h
  split at h
  · rename_i hc; cases h; exact ⟨hc, rfl⟩
  · cases h
theorem mA {xs ys : List α} {lo hi : Option AX} {a b : Int} {id len : Nat} {m : Bool} (h : eg xs a b = some ys) (hx : aE T x = .loc id 0 len) (hid : σ id = some (.lst m k (xs.map e))) (hlen : len = xs.length) (hl : eD T 0 lo a) (hh : eD T xs.length hi b) :
    aB (.slc k x lo hi) (aE T) σ n = some (.loc id a.toNat (b.toNat - a.toNat), σ, n) := by
  obtain ⟨hc, _⟩ := jT h
  subst hlen
  have hb := jS (len := xs.length) (T := T) (lo := lo) (hi := hi) hl hh hc
  have hk : cf σ (.loc id 0 xs.length) = some k := by simp [cf, hid]
  simp only [aB, hx, hk, if_true, hb, Nat.zero_add]
theorem qs {xs zs : List α} {lo hi : Option AX} {a : Int} {id len : Nat} (h : eg xs a xs.length = some zs) (hx : aE T x = .loc id 0 len) (hid : σ id = some (.lst true k ((xs.take a.toNat).map e))) (hlen : len = xs.length) (hl : eD T 0 lo 0) (hh : eD T xs.length hi a) :
    aB (.slc k x lo hi) (aE T) σ n = some (.loc id 0 (xs.take a.toNat).length, σ, n) := by
  obtain ⟨hc, _⟩ := jT h
  subst hlen
  have hb := jS (len := xs.length) (T := T) (lo := lo) (hi := hi) hl hh (by omega : (0 : Int) ≤ 0 ∧ 0 ≤ a ∧ a ≤ xs.length)
  have hk : cf σ (.loc id 0 xs.length) = some k := by simp [cf, hid]
  simp only [aB, hx, hk, if_true, hb]
  have : (xs.take a.toNat).length = a.toNat := by rw [List.length_take]; omega
  rw [this]; simp
theorem qt {xs : List α} {z : α} {l : Int} (h : gT l z = some xs) : l ≤ l ∧ l ≤ 4294967296 := by
  unfold gT at h
  split at h
  · rename_i hh; exact ⟨Int.le_refl _, hh.2⟩
  · cases h
theorem cC {i : Int} (h : IntKind.i64.wrap (i + 1) = i + 1) (hx : aE T x = .d (.int .i64 i)) (hy : aE T y = .d (.int .i64 1)) : aB (.bin .add x y) (aE T) σ n = some (.d (.int .i64 (i + 1)), σ, n) := by
  simp [aB, gD, hx, hy, hJ, h]
theorem cD {i b : Int} (h0 : bF i) (h : i < b) (hb : IntKind.i64.wrap b = b) : IntKind.i64.wrap (i + 1) = i + 1 := by
  rw [hI] at hb ⊢
  simp [bF, IntKind.min, IntKind.max, IntKind.signed, IntKind.bits] at *
  omega
theorem qu {i : Int} (h : IntKind.i64.wrap i = i) : bF i := by
  rw [hI] at h
  simp [bF, IntKind.min, IntKind.max, IntKind.signed, IntKind.bits] at *
  omega
theorem bD {c : AX} {b : Bool} {v : V} (hc : aE T c = .d (.bool b)) (hb : b = true) (hx : aE T x = v) : aB (.pick c x y) (aE T) σ n = some (v, σ, n) := by
  subst hb; subst hx; simp [aB, hc]
theorem bu {c : AX} {b : Bool} {v : V} (hc : aE T c = .d (.bool b)) (hb : ¬ b = true) (hy : aE T y = v) : aB (.pick c x y) (aE T) σ n = some (v, σ, n) := by
  subst hy; simp at hb; subst hb; simp [aB, hc]
theorem eR {k : Ck} {ks : List Ck} {a b : D} {l m : List D} {p q : Bool} (h : cW k a b = some p) (h' : bV ks l m = some q) : bV (k :: ks) (a :: l) (b :: m) = some (p && q) := by
  simp only [bV, h]
  cases p <;> simp [h']
theorem dD {neg : Bool} {ks : List Ck} {p q : List D} {b : Bool} (hx : aE T x = .d (.agg p)) (hy : aE T y = .d (.agg q)) (h : fh ks (.d (.agg p)) (.d (.agg q)) = some b) : aB (.eqS neg ks x y) (aE T) σ n = some (.d (.bool (if neg then !b else b)), σ, n) := by
  simp [aB, hx, hy, h]
theorem jU {kb : Option Nat} {pre post : List D} {xs : List α} {i : Int} {v : α} {j : Nat} (h : bC xs i = some v) (hj : pre.length = j) (hk : kb ≠ none) : dA kb (.agg (pre ++ (xs.map e ++ post))) (j + i.toNat * 1) none = some (e v) := by
  obtain ⟨h0, h1⟩ := iA h
  have hlt := (iB h).2
  subst hj
  have h2 : xs[i.toNat] = v := by rw [cG hlt] at h1; exact ar h1
  simp [dA, cM, Ne.symm hk, List.getElem?_append, hlt, h2]
def D.sc : D → Bool
  | .int .. | .bool .. | .str .. => true
  | _ => false
def D.flat1 : D → Bool
  | .agg cs => cs.all D.sc
  | d => d.sc
def D.flat : D → Bool
  | .tup cs => cs.all D.flat1
  | d => d.flat1
theorem DRel.sc {O O' : Nat → Nat → Prop} {d : D} {v : Value} (h : DRel O w d v) (hd : d.sc = true) : DRel O' w' d v := by
  cases h <;> simp [D.sc] at hd
  case int k n hr => exact .int k n hr
  case bool b => exact .bool b
  case str s hr => exact .str s hr
theorem DRel.flat1 {O O' : Nat → Nat → Prop} {d : D} {v : Value} (h : DRel O w d v) (hd : d.flat1 = true) : DRel O' w' d v := by
  cases d with
  | agg ds =>
    cases h with
    | agg _ cs hl hr =>
      refine .agg ds cs hl fun i d v h1 h2 => (hr i d v h1 h2).sc ?_
      exact List.all_eq_true.1 hd d (dW h1)
  | _ => exact h.sc hd
theorem DRel.flat {O O' : Nat → Nat → Prop} {d : D} {v : Value} (h : DRel O w d v) (hd : d.flat = true) : DRel O' w' d v := by
  cases d with
  | tup ds =>
    cases h with
    | tup _ cs hl hr =>
      refine .tup ds cs hl fun i d v h1 h2 => (hr i d v h1 h2).flat1 ?_
      exact List.all_eq_true.1 hd d (dW h1)
  | _ => exact h.flat1 hd
inductive cN (σ : az) : V → D → Prop
  | d (x : D) : cN σ (.d x) x
  | sub {v : V} {x y : D} : cN σ v x → cJ x y → cN σ v y
  | loc {id off len : Nat} {m : Bool} {k : Option Nat} {els : List D} : σ id = some (.lst m k els) → off + len ≤ els.length → cN σ (.loc id off len) (.vec k ((els.drop off).take len))
  | var1 {id : Nat} {c : V} {x : D} : σ id = some (.var [c]) → cN σ c x → x.shape none = true → cN σ (.ptr id 0 0) (.cptr none x 0)
  | var {id j : Nat} {cs : List V} {ds : List D} : σ id = some (.var cs) → cs.length = ds.length → (∀ (i : Nat) c x, cs[i]? = some c → ds[i]? = some x → cN σ c x) → cN σ (.ptr id 0 j) (.cptr (some ds.length) (.agg ds) j)
  | elem {id i j : Nat} {m : Bool} {k : Option Nat} {els : List D} {x : D} : σ id = some (.lst m k els) → els[i]? = some x → cN σ (.ptr id i j) (.cptr k x j)
  | agg {cs : List V} {ds : List D} : cs.length = ds.length → (∀ (i : Nat) c x, cs[i]? = some c → ds[i]? = some x → cN σ c x) → cN σ (.agg cs) (.agg ds)
  | func {f : Nat} {cs : List V} {ds : List D} : cs.length = ds.length → (∀ (i : Nat) c x, cs[i]? = some c → ds[i]? = some x → cN σ c x) → cN σ (.func f cs) (.func f ds)
theorem DRel.free {O : Nat → Nat → Prop} {d : D} {v : Value} (h : DRel O w d v) : DRel (fun _ _ => False) w d v := h.mono fun b o v h1 _ => ⟨h1, fun h => h⟩
theorem cN.sound (hs : aH A μ σ w) {v : V} {d : D} (h : cN σ v d) : ∀ {u : Value}, aD μ (au A μ σ) w v u → DRel (fun _ _ => False) w d u := by
  induction h with
  | d x => intro u h; cases h with | d _ _ h => exact h.free
  | sub _ hsub ih => intro u h; exact (ih h).sub hsub
  | loc hid hle =>
    rename_i id off len m k els
    intro u h
    have h2 := (f6 (hs.frz hid) (v := .loc id off len) (d := .vec k ((els.drop off).take len)) (by simp [cE, bb, hle]) ((aL.frz (w := w) hid).keepV hs.alt h))
    exact h2.free
  | var1 hid _ hsh ih =>
    rename_i id c x _
    intro u h
    cases h with
    | ptr _ _ _ b k hp =>
      obtain ⟨b', cc, ty, fr, g1, g2, g3, g4, g5⟩ := hs.blks id _ hid
      rw [g1] at hp; cases hp
      have hlt : 0 < cc.size := by simp at g4; omega
      obtain ⟨q1, q2⟩ := g5 0 c cc[0] rfl (by simp [hlt])
      have hx := ih q2
      have hc0 : ∀ (i : Nat) y, x.cells[i]? = some y → i = 0 ∧ y = x := by
        intro i y hy
        cases x <;> simp [D.shape] at hsh <;> simp only [D.cells] at hy <;> cases i <;> simp at hy <;> exact ⟨rfl, hy.symm⟩
      have := DRel.cptr (own := fun _ _ => False) (w := w) none x 0 b 0 (fun i => cc[0]) hsh (fun i y hy => by
          obtain ⟨rfl, rfl⟩ := hc0 i y hy
          rw [dJ g2]; simp [hlt]) (fun _ _ _ h => h) (fun i y hy => by obtain ⟨rfl, rfl⟩ := hc0 i y hy; exact hx) (fun _ _ _ => q1)
      simpa using this
  | var hid hl _ ih =>
    rename_i id j cs ds _
    intro u h
    cases h with
    | ptr _ _ _ b k hp =>
      obtain ⟨b', cc, ty, fr, g1, g2, g3, g4, g5⟩ := hs.blks id _ hid
      rw [g1] at hp; cases hp
      have key : ∀ (i : Nat) y, ds[i]? = some y → ∃ v, cc[i]? = some v ∧ v.oneCell' = true ∧ DRel (fun _ _ => False) w y v := by
        intro i y hy
        have hi : i < ds.length := (List.getElem?_eq_some_iff.1 hy).1
        have hc : cs[i]? = some (cs[i]'(by omega)) := by simp
        obtain ⟨q1, q2⟩ := g5 i _ (cc[i]'(by omega)) hc (by simp)
        exact ⟨_, by simp, q1, ih i _ y hc hy q2⟩
      have := DRel.cptr (own := fun _ _ => False) (w := w) (some ds.length) (.agg ds) j b 0 (fun i => cc.getD i Go.undef) (by simp [D.shape]) (fun i y hy => by
          obtain ⟨v, h1, _⟩ := key i y hy
          rw [dJ g2]; simp [h1]) (fun _ _ _ h => h) (fun i y hy => by
          obtain ⟨v, h1, _, h3⟩ := key i y hy
          simpa [h1] using h3) (fun i y hy => by
          obtain ⟨v, h1, h2, _⟩ := key i y hy
          simpa [h1] using h2)
      simpa using this
  | elem hid hx =>
    rename_i id i j m k els x
    intro u h
    cases h with
    | ptr _ _ _ b kp hp =>
      rcases hs.blks id _ hid with ⟨g1, rfl⟩ | ⟨b', c, ty, fr, g1, g2, g3, g4, g5⟩
      · simp at hx
      · rw [g1] at hp; cases hp
        obtain ⟨q1, q2⟩ := g5 i x hx
        refine .cptr k x j b (i * ap k) (fun j => c.getD (i * ap k + j) Go.undef) q1 (fun jj y hy => ?_) (fun _ _ _ h => h) (fun jj y hy => ?_) (fun jj y hy => ?_)
        · obtain ⟨v, h1, _⟩ := q2 jj y hy
          rw [dJ g2]; simp [h1]
        · obtain ⟨v, h1, _, h3⟩ := q2 jj y hy
          simpa [h1] using h3.free
        · obtain ⟨v, h1, h2, _⟩ := q2 jj y hy
          simpa [h1] using h2
  | agg hl _ ih =>
    rename_i cs ds _
    intro u h
    cases h with
    | agg _ us h1 h2 =>
      refine .agg ds us (by omega) fun i x v hx hv => ?_
      have hi : i < cs.length := by have := (List.getElem?_eq_some_iff.1 hx).1; omega
      exact ih i cs[i] x (by simp [hi]) hx (h2 i cs[i] v (by simp [hi]) hv)
  | func hl _ ih =>
    rename_i f cs ds _
    intro u h
    cases h with
    | func _ _ us h1 h2 =>
      refine .func f ds us (by omega) fun i x v hx hv => ?_
      have hi : i < cs.length := by have := (List.getElem?_eq_some_iff.1 hx).1; omega
      exact ih i cs[i] x (by simp [hi]) hx (h2 i cs[i] v (by simp [hi]) hv)
def dS (σ : az) : List V → List D → Prop
  | [], [] => True
  | v :: l, d :: r => cN σ v d ∧ dS σ l r
  | _, _ => False
theorem dS.all : ∀ {l : List V} {r : List D}, dS σ l r → l.length = r.length ∧ ∀ (i : Nat) x y, l[i]? = some x → r[i]? = some y → cN σ x y
  | [], [], _ => ⟨rfl, fun i x y h => by simp at h⟩
  | x :: l, y :: r, h => by
    obtain ⟨h1, h2⟩ := dS.all h.2
    refine ⟨by simp [h1], fun i u v hu hv => ?_⟩
    cases i with
    | zero => simp at hu hv; subst hu; subst hv; exact h.1
    | succ i => exact h2 i u v (by simpa using hu) (by simpa using hv)
  | [], _ :: _, h => h.elim
  | _ :: _, [], h => h.elim
end
end Go.AM
