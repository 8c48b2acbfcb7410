import Derived.Test.YtnnkfanmokeiaaaAmN4
set_option linter.unusedVariables false
set_option linter.unusedSectionVars false
set_option linter.unusedSimpArgs false
namespace Go.AM
open Go Go.RowKit
variable [Glob]
def eL {α : Type} (k : Option Nat) (e : α → D) (l : List α) : D := .vec k (l.map e)
def cX {α : Type} (e : α → D) (a : A2 α) : D := .agg ((e a.a0).cells ++ ((e a.a1).cells ++ []))
def eA8 {α : Type} (e : α → D) (a : A8 α) : D := .agg ((e a.a0).cells ++ ((e a.a1).cells ++ ((e a.a2).cells ++ ((e a.a3).cells ++ ((e a.a4).cells ++ ((e a.a5).cells ++ ((e a.a6).cells ++ ((e a.a7).cells ++ []))))))))
def qu (P : Program) {α β : Type} (g : D) (ea : α → D) (er : β → D) (f : α → Option β) : Prop := ∃ fn caps, g = .func fn caps ∧ ∀ a r, f a = some r → PCall P fn ([ea a] ++ caps) (er r)
def u3 (P : Program) {α γ β : Type} (g : D) (ea : α → D) (eb : γ → D) (er : β → D) (f : α → γ → Option β) : Prop := ∃ fn caps, g = .func fn caps ∧ ∀ a b r, f a b = some r → PCall P fn ([ea a, eb b] ++ caps) (er r)
section
variable {P : Program} {N na : Nat} {A : Nat → Nat → Prop} {μ μ' : Nat → Option bn} {T T' : Nat → V} {σ σ' : aB} {w w' : World} {a : Act} {n n' : Nat} {l : List bt} {dst : Option Nat} {op : be} {K : S → Prop} {α : Type} {e : α → D} {x y lo hi : AX} {k : Option Nat}
theorem kN {l : List α} {i : Int} {v : α} (h : bq l i = some v) : 0 ≤ i ∧ l[i.toNat]? = some v := by
  unfold bq at h; split at h
  · exact ⟨by assumption, h⟩
  · cases h
theorem kO {l : List α} {i : Int} {v : α} (h : bq l i = some v) : 0 ≤ i ∧ i.toNat < l.length := by
  obtain ⟨h0, h1⟩ := kN h
  exact ⟨h0, (List.getElem?_eq_some_iff.1 h1).1⟩
theorem jV {l r : List α} {i : Int} {v : α} (h : dz l i v = some r) : 0 ≤ i ∧ i.toNat < l.length ∧ r = l.set i.toNat v := by
  unfold dz at h; split at h
  · split at h
    · cases h; exact ⟨by assumption, by assumption, rfl⟩
    · cases h
  · cases h
theorem qv {l r : List α} {i : Int} {v : α} (h : dz l i v = some r) : r.length = l.length := by rw [(jV h).2.2, List.length_set]
theorem qw {xs ys zs : List α} (h : cx xs ys = some zs) : xs.length + ys.length ≤ 4294967296 ∧ zs = xs ++ ys := by
  unfold cx at h; split at h
  · cases h; exact ⟨by assumption, rfl⟩
  · cases h
theorem u4 {l : List α} {i : Nat} {v : α} (h : l[i]? = some v) : (l.map e)[i]? = some (e v) := by rw [List.getElem?_map, h]; rfl
theorem cl {xs : List α} {i : Int} {v : α} {kk : IntKind} (h : bq xs i = some v) (hx : aA T x = .d (.vec k (xs.map e))) (hy : aA T y = .d (.int kk i)) : aD (.iaddr k x y) (aA T) σ n = some (.d (.cptr k (e v) 0), σ, n) := by
  obtain ⟨h0, h1⟩ := kN h
  simp [aD, hx, hy, h0, u4 h1]
theorem iX {xs : List α} {i : Int} {v : α} {kk : IntKind} {id len : Nat} {m : Bool} (h : bq xs i = some v) (hx : aA T x = .loc id 0 len) (hid : σ id = some (.lst m k (xs.map e))) (hl : len = xs.length) (hy : aA T y = .d (.int kk i)) : aD (.iaddr k x y) (aA T) σ n = some (.ptr id i.toNat 0, σ, n) := by
  obtain ⟨h0, h1⟩ := kO h
  have hk : cy σ (.loc id 0 len) = some k := by simp [cy, hid]
  have h2 : i < (len : Int) := by omega
  simp [aD, hx, hy, h0, hk, h2]
theorem iY {xs : List α} {i : Int} {v : α} {id j : Nat} {m : Bool} {kb : Option Nat} {d : D} (h : bq xs i = some v) (hx : aA T x = .ptr id i.toNat j) (hid : σ id = some (.lst m kb (xs.map e))) (hd : eu kb (e v) j k = some d) : aD (.load k x) (aA T) σ n = some (.d d, σ, n) := by
  obtain ⟨h0, h1⟩ := kN h
  simp [aD, cB, hx, hid, h1, hd]
theorem qx {xs xs' : List α} {i : Int} {v' : α} {id : Nat} {kb : Option Nat} (h' : dz xs i v' = some xs') (hx : aA T x = .ptr id i.toNat 0) (hy : aA T y = .d (e v')) (hid : σ id = some (.lst true kb (xs.map e))) (hs : (e v').shape kb = true) (h1 : (e v').cells.all D.one = true) :
    aD (.store kb x y) (aA T) σ n = some (V.undef, al σ id (some (.lst true kb (xs'.map e))), n) := by
  obtain ⟨h0, hlt, rfl⟩ := jV h'
  obtain ⟨v, hv⟩ : ∃ v, xs[i.toNat]? = some v := ⟨xs[i.toNat], by simp [hlt]⟩
  have hd : hU kb (e v) 0 kb (e v') = some (e v') := by unfold hU; rw [if_pos ⟨hs, h1⟩]; simp
  simp only [aD, eU, hx, hy, hid, List.getElem?_map, hv, Option.map_some, hd, List.map_set]
theorem im {op : be} {v v' : V} {σ' : aB} {n' : Nat} (h : aD op (aA T) σ n = some (v, σ', n')) (hv : v = v') : aD op (aA T) σ n = some (v', σ', n') := hv ▸ h
theorem gW {xs : List α} {i : Int} {v : α} {kk : IntKind} {dv : D} (h : bq xs i = some v) (hx : aA T x = .d (.vec k (xs.map e))) (hy : aA T y = .d (.int kk i)) (hu : e v = dv) : aD (.iaddr k x y) (aA T) σ n = some (.d (.cptr k dv 0), σ, n) := by
  rw [← hu]; exact cl h hx hy
theorem qy {xs : List α} {i : Int} {v : α} {id j : Nat} {m : Bool} {kb : Option Nat} {d dv : D} (h : bq xs i = some v) (hx : aA T x = .ptr id i.toNat j) (hid : σ id = some (.lst m kb (xs.map e))) (hu : e v = dv) (hd : eu kb dv j k = some d) : aD (.load k x) (aA T) σ n = some (.d d, σ, n) :=
  iY h hx hid (hu ▸ hd)
theorem u5 {xs xs' : List α} {i : Int} {v' : α} {id : Nat} {kb : Option Nat} {dv : D} (h' : dz xs i v' = some xs') (hx : aA T x = .ptr id i.toNat 0) (hy : aA T y = .d dv) (hid : σ id = some (.lst true kb (xs.map e))) (hu : e v' = dv) (hs : dv.shape kb = true) (h1 : dv.cells.all D.one = true) :
    aD (.store kb x y) (aA T) σ n = some (V.undef, al σ id (some (.lst true kb (xs'.map e))), n) := by
  subst hu; exact qx h' hx hy hid hs h1
def fL (T : Nat → V) (d : Int) : Option AX → Int → Prop
  | none, i => i = d
  | some x, i => ∃ k, aA T x = .d (.int k i)
theorem mY {len : Nat} {lo hi : Option AX} {a b : Int} (hl : fL T 0 lo a) (hh : fL T len hi b) (h : 0 ≤ a ∧ a ≤ b ∧ b ≤ len) : ey len (lo.map (aA T)) (hi.map (aA T)) = some (a.toNat, b.toNat) := by
  unfold ey
  cases lo with
  | none =>
    simp [fL] at hl; subst hl
    cases hi with
    | none => simp [fL] at hh; subst hh; simp
    | some y => obtain ⟨k, hk⟩ := hh; simp [hk, fV, h]
  | some x =>
    obtain ⟨k, hk⟩ := hl
    cases hi with
    | none => simp [fL] at hh; subst hh; simp [hk, fV, h]
    | some y => obtain ⟨k', hk'⟩ := hh; simp [hk, hk', fV, h]
theorem qz {xs ys : List α} {lo hi : Option AX} {a b : Int} (h : cJ xs a b = some ys) (hx : aA T x = .d (.vec k (xs.map e))) (hl : fL T 0 lo a) (hh : fL T xs.length hi b) : aD (.slc k x lo hi) (aA T) σ n = some (.d (.vec k (ys.map e)), σ, n) := by
  unfold cJ at h
  split at h
  · rename_i hc
    cases h
    have hb := mY (len := (xs.map e).length) (T := T) (lo := lo) (hi := hi) (a := a) (b := b) hl (by simpa using hh) (by simpa using hc)
    simp only [aD, hx, if_true, hb, List.map_take, List.map_drop]
  · cases h
theorem fc {xs : List α} (hx : aA T x = .d (.vec k (xs.map e))) : eJ σ k (aA T x) = some (xs.map e) := by
  rw [hx]; simp [eJ, ew, cy, dE]
theorem u6 {xs : List α} {id len : Nat} {m : Bool} (hx : aA T x = .loc id 0 len) (hid : σ id = some (.lst m k (xs.map e))) (hl : len = xs.length) : eJ σ k (aA T x) = some (xs.map e) := by
  subst hl; rw [hx]
  have : (xs.map e).take xs.length = xs.map e := List.take_of_length_le (by simp)
  simp [eJ, ew, cy, dE, hid, this]
theorem eP {xs ys zs : List α} {id len : Nat} {m m' : Bool} (h : cx xs ys = some zs) (hx : aA T x = .loc id 0 len) (hid : σ id = some (.lst m k (xs.map e))) (hl : len = xs.length) (hy : eJ σ k (aA T y) = some (ys.map e)) :
    aD (.append k x y m') (aA T) σ n = some (.loc n 0 zs.length, al (al σ id none) n (some (.lst m k (zs.map e))), n + 1) := by
  obtain ⟨h1, rfl⟩ := qw h
  subst hl
  simp only [aD, dL, hy, hx, hid]
  simp [dR, h1]
theorem qA {xs : List α} {z : α} {l c : Int} (h : gU l z = some xs) (hx : aA T x = .d (.int .i64 l)) (hy : aA T y = .d (.int .i64 c)) (hc : l ≤ c ∧ c ≤ 4294967296) :
    aD (.mkslF k (e z) x y) (aA T) σ n = some (.loc n 0 xs.length, al σ n (some (.lst false k (xs.map e))), n + 1) := by
  unfold gU at h
  split at h
  · rename_i hh
    cases h
    simp only [aD, hx, hy, if_pos (show 0 ≤ l ∧ l ≤ c ∧ c ≤ 4294967296 from ⟨hh.1, hc.1, hc.2⟩)]
    simp
  · cases h
theorem u7 {zero : List D} {xs : List α} {id off len : Nat} {k : Option Nat} (hx : aA T x = .loc id off len) (hid : σ id = some (.lst true k (xs.map e))) (hl : off + len = xs.length) :
    aD (.clear k zero x) (aA T) σ n = some (.d (.tup []), al σ id (some (.lst true k ((xs.take off).map e))), n) := by
  simp only [aD, hx, hid, List.map_take]
  rw [if_pos ⟨trivial, by simpa using hl⟩]
theorem jW {xs ys : List α} {a b : Int} (h : cJ xs a b = some ys) : (0 ≤ a ∧ a ≤ b ∧ b ≤ xs.length) ∧ ys = (xs.drop a.toNat).take (b.toNat - a.toNat) := by
  unfold cJ at h
  split at h
  · rename_i hc; cases h; exact ⟨hc, rfl⟩
  · cases h
theorem kP {xs ys : List α} {lo hi : Option AX} {a b : Int} {id len : Nat} {m : Bool} (h : cJ xs a b = some ys) (hx : aA T x = .loc id 0 len) (hid : σ id = some (.lst m k (xs.map e))) (hlen : len = xs.length) (hl : fL T 0 lo a) (hh : fL T xs.length hi b) :
    aD (.slc k x lo hi) (aA T) σ n = some (.loc id a.toNat (b.toNat - a.toNat), σ, n) := by
  obtain ⟨hc, _⟩ := jW h
  subst hlen
  have hb := mY (len := xs.length) (T := T) (lo := lo) (hi := hi) hl hh hc
  have hk : cy σ (.loc id 0 xs.length) = some k := by simp [cy, hid]
  simp only [aD, hx, hk, if_true, hb, Nat.zero_add]
theorem u9 {xs zs : List α} {lo hi : Option AX} {a : Int} {id len : Nat} (h : cJ xs a xs.length = some zs) (hx : aA T x = .loc id 0 len) (hid : σ id = some (.lst true k ((xs.take a.toNat).map e))) (hlen : len = xs.length) (hl : fL T 0 lo 0) (hh : fL T xs.length hi a) :
    aD (.slc k x lo hi) (aA T) σ n = some (.loc id 0 (xs.take a.toNat).length, σ, n) := by
  obtain ⟨hc, _⟩ := jW h
  subst hlen
  have hb := mY (len := xs.length) (T := T) (lo := lo) (hi := hi) hl hh (by omega : (0 : Int) ≤ 0 ∧ 0 ≤ a ∧ a ≤ xs.length)
  have hk : cy σ (.loc id 0 xs.length) = some k := by simp [cy, hid]
  simp only [aD, hx, hk, if_true, hb]
  have : (xs.take a.toNat).length = a.toNat := by rw [List.length_take]; omega
  rw [this]; simp
theorem va {xs pre ys zs : List α} {b : Int} {id : Nat} {m' : Bool} (h0 : cJ xs 0 b = some pre) (h : cx pre ys = some zs) (hx : aA T x = .loc id (0 : Int).toNat (b.toNat - (0 : Int).toNat)) (hid : σ id = some (.lst true k (xs.map e)))
    (hy : ∀ σ2 : aB, (∀ q, q ≠ id → σ2 q = σ q) → eJ σ2 k (aA T y) = some (ys.map e)) :
    aD (.appendC k x y m') (aA T) σ n = some (.loc n 0 zs.length, al (al σ id none) n (some (.lst true k (zs.map e))), n + 1) := by
  obtain ⟨hc, rfl⟩ := jW h0
  obtain ⟨h1, rfl⟩ := qw h
  have hx' : aA T x = .loc id 0 b.toNat := hx
  have hlen : b.toNat ≤ (xs.map e).length := by rw [List.length_map]; omega
  simp only [aD, hx', hid, if_pos hlen]
  have hs := hy (al σ id (some (.lst true k ((xs.map e).take b.toNat)))) (fun q hq => aR _ _ hq)
  simp only [dL, hs, bm]
  have h1' : (xs.take b.toNat).length + ys.length ≤ dR := by simpa [dR] using h1
  rw [if_pos ⟨trivial, by simp; omega, by simpa [← List.map_take] using h1'⟩]
  have uu : ∀ b', al (al σ id b') id none = al σ id none := fun b' => by funext q; simp only [al]; split <;> rfl
  rw [uu]
  simp [← List.map_take]
theorem vc {xs ys : List α} {a b : Int} {id : Nat} {m : Bool} (h : cJ xs a b = some ys) (hx : aA T x = .loc id a.toNat (b.toNat - a.toNat)) (hid : σ id = some (.lst m k (xs.map e))) : eJ σ k (aA T x) = some (ys.map e) := by
  obtain ⟨hc, rfl⟩ := jW h
  simp only [eJ, ew, hx, cy, hid, if_true, dE]
  rw [if_pos (by simp; omega)]
  simp [List.map_take, List.map_drop]
theorem qB {xs : List α} {z : α} {l : Int} (h : gU l z = some xs) : l ≤ l ∧ l ≤ 4294967296 := by
  unfold gU at h
  split at h
  · rename_i hh; exact ⟨Int.le_refl _, hh.2⟩
  · cases h
theorem cL {i : Int} (h : IntKind.i64.wrap (i + 1) = i + 1) (hx : aA T x = .d (.int .i64 i)) (hy : aA T y = .d (.int .i64 1)) : aD (.bin .add x y) (aA T) σ n = some (.d (.int .i64 (i + 1)), σ, n) := by
  simp [aD, jA, hx, hy, ki, h]
theorem cM {i b : Int} (h0 : bK i) (h : i < b) (hb : IntKind.i64.wrap b = b) : IntKind.i64.wrap (i + 1) = i + 1 := by
  rw [md] at hb ⊢
  simp [bK, IntKind.min, IntKind.max, IntKind.signed, IntKind.bits] at *
  omega
theorem bw {c : AX} {b : Bool} {v : V} (hc : aA T c = .d (.bool b)) (hb : b = true) (hx : aA T x = v) : aD (.pick c x y) (aA T) σ n = some (v, σ, n) := by
  subst hb; subst hx; simp [aD, hc]
theorem bp {c : AX} {b : Bool} {v : V} (hc : aA T c = .d (.bool b)) (hb : ¬ b = true) (hy : aA T y = v) : aD (.pick c x y) (aA T) σ n = some (v, σ, n) := by
  subst hy; simp at hb; subst hb; simp [aD, hc]
theorem fZ {k : Ck} {ks : List Ck} {a b : D} {l m : List D} {p q : Bool} (h : dy k a b = some p) (h' : bX ks l m = some q) : bX (k :: ks) (a :: l) (b :: m) = some (p && q) := by
  simp only [bX, h]
  cases p <;> simp [h']
theorem f4 {neg : Bool} {ks : List Ck} {p q : List D} {b : Bool} (hx : aA T x = .d (.agg p)) (hy : aA T y = .d (.agg q)) (h : gM ks (.d (.agg p)) (.d (.agg q)) = some b) : aD (.eqS neg ks x y) (aA T) σ n = some (.d (.bool (if neg then !b else b)), σ, n) := by
  simp [aD, hx, hy, h]
theorem io {kb : Option Nat} {pre post : List D} {xs : List α} {i : Int} {v : α} {j : Nat} (h : bq xs i = some v) (hj : pre.length = j) (hk : kb ≠ none) : eu kb (.agg (pre ++ (xs.map e ++ post))) (j + i.toNat * 1) none = some (e v) := by
  obtain ⟨h0, h1⟩ := kN h
  have hlt := (kO h).2
  subst hj
  have h2 : xs[i.toNat] = v := by rw [bV hlt] at h1; exact aq h1
  simp [eu, dm, Ne.symm hk, List.getElem?_append, hlt, h2]
def D.sc : D → Bool
  | .int .. | .bool .. | .str .. => true
  | _ => false
def D.flat1 : D → Bool
  | .agg cs => cs.all D.sc
  | d => d.sc
def D.flat : D → Bool
  | .tup cs => cs.all D.flat1
  | d => d.flat1
theorem DRel.sc {O O' : Nat → Nat → Prop} {d : D} {v : Value} (h : DRel O w d v) (hd : d.sc = true) : DRel O' w' d v := by
  cases h <;> simp [D.sc] at hd
  case int k n hr => exact .int k n hr
  case bool b => exact .bool b
  case str s hr => exact .str s hr
theorem DRel.flat1 {O O' : Nat → Nat → Prop} {d : D} {v : Value} (h : DRel O w d v) (hd : d.flat1 = true) : DRel O' w' d v := by
  cases d with
  | agg ds =>
    cases h with
    | agg _ cs hl hr =>
      refine .agg ds cs hl fun i d v h1 h2 => (hr i d v h1 h2).sc ?_
      exact List.all_eq_true.1 hd d (dx h1)
  | _ => exact h.sc hd
theorem DRel.flat {O O' : Nat → Nat → Prop} {d : D} {v : Value} (h : DRel O w d v) (hd : d.flat = true) : DRel O' w' d v := by
  cases d with
  | tup ds =>
    cases h with
    | tup _ cs hl hr =>
      refine .tup ds cs hl fun i d v h1 h2 => (hr i d v h1 h2).flat1 ?_
      exact List.all_eq_true.1 hd d (dx h1)
  | _ => exact h.flat1 hd
inductive dq (σ : aB) : V → D → Prop
  | d (x : D) : dq σ (.d x) x
  | sub {v : V} {x y : D} : dq σ v x → dc x y → dq σ v y
  | loc {id off len : Nat} {m : Bool} {k : Option Nat} {els : List D} : σ id = some (.lst m k els) → off + len ≤ els.length → dq σ (.loc id off len) (.vec k ((els.drop off).take len))
  | var1 {id : Nat} {c : V} {x : D} : σ id = some (.var [c]) → dq σ c x → x.shape none = true → dq σ (.ptr id 0 0) (.cptr none x 0)
  | var {id j : Nat} {cs : List V} {ds : List D} : σ id = some (.var cs) → cs.length = ds.length → (∀ (i : Nat) c x, cs[i]? = some c → ds[i]? = some x → dq σ c x) → dq σ (.ptr id 0 j) (.cptr (some ds.length) (.agg ds) j)
  | elem {id i j : Nat} {m : Bool} {k : Option Nat} {els : List D} {x : D} : σ id = some (.lst m k els) → els[i]? = some x → dq σ (.ptr id i j) (.cptr k x j)
  | agg {cs : List V} {ds : List D} : cs.length = ds.length → (∀ (i : Nat) c x, cs[i]? = some c → ds[i]? = some x → dq σ c x) → dq σ (.agg cs) (.agg ds)
  | func {f : Nat} {cs : List V} {ds : List D} : cs.length = ds.length → (∀ (i : Nat) c x, cs[i]? = some c → ds[i]? = some x → dq σ c x) → dq σ (.func f cs) (.func f ds)
theorem DRel.free {O : Nat → Nat → Prop} {d : D} {v : Value} (h : DRel O w d v) : DRel (fun _ _ => False) w d v := h.mono fun b o v h1 _ => ⟨h1, fun h => h⟩
theorem dq.sound (hs : aJ A μ σ w) {v : V} {d : D} (h : dq σ v d) : ∀ {u : Value}, aE μ (aw A μ σ) w v u → DRel (fun _ _ => False) w d u := by
  induction h with
  | d x => intro u h; cases h with | d _ _ h => exact h.free
  | sub _ hsub ih => intro u h; exact (ih h).sub hsub
  | loc hid hle =>
    rename_i id off len m k els
    intro u h
    have h2 := (iR (hs.frz hid) (v := .loc id off len) (d := .vec k ((els.drop off).take len)) (by simp [cZ, bm, hle]) ((aM.frz (w := w) hid).keepV hs.alt h))
    exact h2.free
  | var1 hid _ hsh ih =>
    rename_i id c x _
    intro u h
    cases h with
    | ptr _ _ _ b k hp =>
      obtain ⟨b', cc, ty, fr, g1, g2, g3, g4, g5⟩ := hs.blks id _ hid
      rw [g1] at hp; cases hp
      have hlt : 0 < cc.size := by simp at g4; omega
      obtain ⟨q1, q2⟩ := g5 0 c cc[0] rfl (by simp [hlt])
      have hx := ih q2
      have hc0 : ∀ (i : Nat) y, x.cells[i]? = some y → i = 0 ∧ y = x := by
        intro i y hy
        cases x <;> simp [D.shape] at hsh <;> simp only [D.cells] at hy <;> cases i <;> simp at hy <;> exact ⟨rfl, hy.symm⟩
      have := DRel.cptr (own := fun _ _ => False) (w := w) none x 0 b 0 (fun i => cc[0]) hsh (fun i y hy => by
          obtain ⟨rfl, rfl⟩ := hc0 i y hy
          rw [dY g2]; simp [hlt]) (fun _ _ _ h => h) (fun i y hy => by obtain ⟨rfl, rfl⟩ := hc0 i y hy; exact hx) (fun _ _ _ => q1)
      simpa using this
  | var hid hl _ ih =>
    rename_i id j cs ds _
    intro u h
    cases h with
    | ptr _ _ _ b k hp =>
      obtain ⟨b', cc, ty, fr, g1, g2, g3, g4, g5⟩ := hs.blks id _ hid
      rw [g1] at hp; cases hp
      have key : ∀ (i : Nat) y, ds[i]? = some y → ∃ v, cc[i]? = some v ∧ v.oneCell' = true ∧ DRel (fun _ _ => False) w y v := by
        intro i y hy
        have hi : i < ds.length := (List.getElem?_eq_some_iff.1 hy).1
        have hc : cs[i]? = some (cs[i]'(by omega)) := by simp
        obtain ⟨q1, q2⟩ := g5 i _ (cc[i]'(by omega)) hc (by simp)
        exact ⟨_, by simp, q1, ih i _ y hc hy q2⟩
      have := DRel.cptr (own := fun _ _ => False) (w := w) (some ds.length) (.agg ds) j b 0 (fun i => cc.getD i Go.undef) (by simp [D.shape]) (fun i y hy => by
          obtain ⟨v, h1, _⟩ := key i y hy
          rw [dY g2]; simp [h1]) (fun _ _ _ h => h) (fun i y hy => by
          obtain ⟨v, h1, _, h3⟩ := key i y hy
          simpa [h1] using h3) (fun i y hy => by
          obtain ⟨v, h1, h2, _⟩ := key i y hy
          simpa [h1] using h2)
      simpa using this
  | elem hid hx =>
    rename_i id i j m k els x
    intro u h
    cases h with
    | ptr _ _ _ b kp hp =>
      rcases hs.blks id _ hid with ⟨g1, rfl⟩ | ⟨b', c, ty, fr, g1, g2, g3, g4, g5⟩
      · simp at hx
      · rw [g1] at hp; cases hp
        obtain ⟨q1, q2⟩ := g5 i x hx
        refine .cptr k x j b (i * ap k) (fun j => c.getD (i * ap k + j) Go.undef) q1 (fun jj y hy => ?_) (fun _ _ _ h => h) (fun jj y hy => ?_) (fun jj y hy => ?_)
        · obtain ⟨v, h1, _⟩ := q2 jj y hy
          rw [dY g2]; simp [h1]
        · obtain ⟨v, h1, _, h3⟩ := q2 jj y hy
          simpa [h1] using h3.free
        · obtain ⟨v, h1, h2, _⟩ := q2 jj y hy
          simpa [h1] using h2
  | agg hl _ ih =>
    rename_i cs ds _
    intro u h
    cases h with
    | agg _ us h1 h2 =>
      refine .agg ds us (by omega) fun i x v hx hv => ?_
      have hi : i < cs.length := by have := (List.getElem?_eq_some_iff.1 hx).1; omega
      exact ih i cs[i] x (by simp [hi]) hx (h2 i cs[i] v (by simp [hi]) hv)
  | func hl _ ih =>
    rename_i f cs ds _
    intro u h
    cases h with
    | func _ _ us h1 h2 =>
      refine .func f ds us (by omega) fun i x v hx hv => ?_
      have hi : i < cs.length := by have := (List.getElem?_eq_some_iff.1 hx).1; omega
      exact ih i cs[i] x (by simp [hi]) hx (h2 i cs[i] v (by simp [hi]) hv)
def fe (σ : aB) : List V → List D → Prop
  | [], [] => True
  | v :: l, d :: r => dq σ v d ∧ fe σ l r
  | _, _ => False
theorem fe.all : ∀ {l : List V} {r : List D}, fe σ l r → l.length = r.length ∧ ∀ (i : Nat) x y, l[i]? = some x → r[i]? = some y → dq σ x y
  | [], [], _ => ⟨rfl, fun i x y h => by simp at h⟩
  | x :: l, y :: r, h => by
    obtain ⟨h1, h2⟩ := fe.all h.2
    refine ⟨by simp [h1], fun i u v hu hv => ?_⟩
    cases i with
    | zero => simp at hu hv; subst hu; subst hv; exact h.1
    | succ i => exact h2 i u v (by simpa using hu) (by simpa using hv)
  | [], _ :: _, h => h.elim
  | _ :: _, [], h => h.elim
end
end Go.AM
