import Derived.Test.YtnnkfanmokeiaaaAmN4
set_option linter.unusedVariables false
set_option linter.unusedSectionVars false
set_option linter.unusedSimpArgs false
namespace Go.AM
open Go Go.RowKit
variable [Glob]
def eL {α : Type} (k : Option Nat) (e : α → D) (l : List α) : D := .vec k (l.map e)
def eA2 {α : Type} (e : α → D) (a : A2 α) : D := .agg ((e a.a0).cells ++ ((e a.a1).cells ++ []))
def eA8 {α : Type} (e : α → D) (a : A8 α) : D := .agg ((e a.a0).cells ++ ((e a.a1).cells ++ ((e a.a2).cells ++ ((e a.a3).cells ++ ((e a.a4).cells ++ ((e a.a5).cells ++ ((e a.a6).cells ++ ((e a.a7).cells ++ []))))))))
def pR (P : Program) {α β : Type} (g : D) (ea : α → D) (er : β → D) (f : α → Option β) : Prop := ∃ fn caps, g = .func fn caps ∧ ∀ a r, f a = some r → PCall P fn ([ea a] ++ caps) (er r)
def t8 (P : Program) {α γ β : Type} (g : D) (ea : α → D) (eb : γ → D) (er : β → D) (f : α → γ → Option β) : Prop := ∃ fn caps, g = .func fn caps ∧ ∀ a b r, f a b = some r → PCall P fn ([ea a, eb b] ++ caps) (er r)
section
variable {P : Program} {N na : Nat} {A : Nat → Nat → Prop} {μ μ' : Nat → Option bf} {T T' : Nat → V} {σ σ' : ay} {w w' : World} {a : Act} {n n' : Nat} {l : List bq} {dst : Option Nat} {op : aZ} {K : S → Prop} {α : Type} {e : α → D} {x y lo hi : AX} {k : Option Nat}
theorem ky {l : List α} {i : Int} {v : α} (h : bh l i = some v) : 0 ≤ i ∧ l[i.toNat]? = some v := by
  unfold bh at h; split at h
  · exact ⟨by assumption, h⟩
  · cases h
theorem kz {l : List α} {i : Int} {v : α} (h : bh l i = some v) : 0 ≤ i ∧ i.toNat < l.length := by
  obtain ⟨h0, h1⟩ := ky h
  exact ⟨h0, (List.getElem?_eq_some_iff.1 h1).1⟩
theorem iF {l r : List α} {i : Int} {v : α} (h : cx l i v = some r) : 0 ≤ i ∧ i.toNat < l.length ∧ r = l.set i.toNat v := by
  unfold cx at h; split at h
  · split at h
    · cases h; exact ⟨by assumption, by assumption, rfl⟩
    · cases h
  · cases h
theorem kA {l r : List α} {i : Int} {v : α} (h : cx l i v = some r) : r.length = l.length := by rw [(iF h).2.2, List.length_set]
theorem pS {xs ys zs : List α} (h : cB xs ys = some zs) : xs.length + ys.length ≤ 4294967296 ∧ zs = xs ++ ys := by
  unfold cB at h; split at h
  · cases h; exact ⟨by assumption, rfl⟩
  · cases h
theorem ua {l : List α} {i : Nat} {v : α} (h : l[i]? = some v) : (l.map e)[i]? = some (e v) := by rw [List.getElem?_map, h]; rfl
theorem de {xs : List α} {i : Int} {v : α} {kk : IntKind} (h : bh xs i = some v) (hx : aB T x = .d (.vec k (xs.map e))) (hy : aB T y = .d (.int kk i)) : aA (.iaddr k x y) (aB T) σ n = some (.d (.cptr k (e v) 0), σ, n) := by
  obtain ⟨h0, h1⟩ := ky h
  simp [aA, hx, hy, h0, ua h1]
theorem gD {xs : List α} {i : Int} {v : α} {kk : IntKind} {id len : Nat} {m : Bool} (h : bh xs i = some v) (hx : aB T x = .loc id 0 len) (hid : σ id = some (.lst m k (xs.map e))) (hl : len = xs.length) (hy : aB T y = .d (.int kk i)) : aA (.iaddr k x y) (aB T) σ n = some (.ptr id i.toNat 0, σ, n) := by
  obtain ⟨h0, h1⟩ := kz h
  have hk : ca σ (.loc id 0 len) = some k := by simp [ca, hid]
  have h2 : i < (len : Int) := by omega
  simp [aA, hx, hy, h0, hk, h2]
theorem iG {xs : List α} {i : Int} {v : α} {id j : Nat} {m : Bool} {kb : Option Nat} {d : D} (h : bh xs i = some v) (hx : aB T x = .ptr id i.toNat j) (hid : σ id = some (.lst m kb (xs.map e))) (hd : dV kb (e v) j k = some d) : aA (.load k x) (aB T) σ n = some (.d d, σ, n) := by
  obtain ⟨h0, h1⟩ := ky h
  simp [aA, cd, hx, hid, h1, hd]
theorem pT {xs xs' : List α} {i : Int} {v' : α} {id : Nat} {kb : Option Nat} (h' : cx xs i v' = some xs') (hx : aB T x = .ptr id i.toNat 0) (hy : aB T y = .d (e v')) (hid : σ id = some (.lst true kb (xs.map e))) (hs : (e v').shape kb = true) (h1 : (e v').cells.all D.one = true) :
    aA (.store kb x y) (aB T) σ n = some (V.undef, ak σ id (some (.lst true kb (xs'.map e))), n) := by
  obtain ⟨h0, hlt, rfl⟩ := iF h'
  obtain ⟨v, hv⟩ : ∃ v, xs[i.toNat]? = some v := ⟨xs[i.toNat], by simp [hlt]⟩
  have hd : gV kb (e v) 0 kb (e v') = some (e v') := by unfold gV; rw [if_pos ⟨hs, h1⟩]; simp
  simp only [aA, eD, hx, hy, hid, List.getElem?_map, hv, Option.map_some, hd, List.map_set]
theorem iH {op : aZ} {v v' : V} {σ' : ay} {n' : Nat} (h : aA op (aB T) σ n = some (v, σ', n')) (hv : v = v') : aA op (aB T) σ n = some (v', σ', n') := hv ▸ h
theorem dI {xs : List α} {i : Int} {v : α} {kk : IntKind} {dv : D} (h : bh xs i = some v) (hx : aB T x = .d (.vec k (xs.map e))) (hy : aB T y = .d (.int kk i)) (hu : e v = dv) : aA (.iaddr k x y) (aB T) σ n = some (.d (.cptr k dv 0), σ, n) := by
  rw [← hu]; exact de h hx hy
theorem mw {xs : List α} {i : Int} {v : α} {id j : Nat} {m : Bool} {kb : Option Nat} {d dv : D} (h : bh xs i = some v) (hx : aB T x = .ptr id i.toNat j) (hid : σ id = some (.lst m kb (xs.map e))) (hu : e v = dv) (hd : dV kb dv j k = some d) : aA (.load k x) (aB T) σ n = some (.d d, σ, n) :=
  iG h hx hid (hu ▸ hd)
theorem pU {xs xs' : List α} {i : Int} {v' : α} {id : Nat} {kb : Option Nat} {dv : D} (h' : cx xs i v' = some xs') (hx : aB T x = .ptr id i.toNat 0) (hy : aB T y = .d dv) (hid : σ id = some (.lst true kb (xs.map e))) (hu : e v' = dv) (hs : dv.shape kb = true) (h1 : dv.cells.all D.one = true) :
    aA (.store kb x y) (aB T) σ n = some (V.undef, ak σ id (some (.lst true kb (xs'.map e))), n) := by
  subst hu; exact pT h' hx hy hid hs h1
def gi (T : Nat → V) (d : Int) : Option AX → Int → Prop
  | none, i => i = d
  | some x, i => ∃ k, aB T x = .d (.int k i)
theorem pV {len : Nat} {lo hi : Option AX} {a b : Int} (hl : gi T 0 lo a) (hh : gi T len hi b) (h : 0 ≤ a ∧ a ≤ b ∧ b ≤ len) : dX len (lo.map (aB T)) (hi.map (aB T)) = some (a.toNat, b.toNat) := by
  unfold dX
  cases lo with
  | none =>
    simp [gi] at hl; subst hl
    cases hi with
    | none => simp [gi] at hh; subst hh; simp
    | some y => obtain ⟨k, hk⟩ := hh; simp [hk, fB, h]
  | some x =>
    obtain ⟨k, hk⟩ := hl
    cases hi with
    | none => simp [gi] at hh; subst hh; simp [hk, fB, h]
    | some y => obtain ⟨k', hk'⟩ := hh; simp [hk, hk', fB, h]
theorem fH {xs : List α} (hx : aB T x = .d (.vec k (xs.map e))) : eo σ k (aB T x) = some (xs.map e) := by
  rw [hx]; simp [eo, dW, ca, di]
theorem ub {xs : List α} {id len : Nat} {m : Bool} (hx : aB T x = .loc id 0 len) (hid : σ id = some (.lst m k (xs.map e))) (hl : len = xs.length) : eo σ k (aB T x) = some (xs.map e) := by
  subst hl; rw [hx]
  have : (xs.map e).take xs.length = xs.map e := List.take_of_length_le (by simp)
  simp [eo, dW, ca, di, hid, this]
theorem fj {xs ys zs : List α} {id len : Nat} {m m' : Bool} (h : cB xs ys = some zs) (hx : aB T x = .loc id 0 len) (hid : σ id = some (.lst m k (xs.map e))) (hl : len = xs.length) (hy : eo σ k (aB T y) = some (ys.map e)) :
    aA (.append k x y m') (aB T) σ n = some (.loc n 0 zs.length, ak (ak σ id none) n (some (.lst m k (zs.map e))), n + 1) := by
  obtain ⟨h1, rfl⟩ := pS h
  subst hl
  simp only [aA, du, hy, hx, hid]
  simp [dE, h1]
theorem mx {xs : List α} {z : α} {l c : Int} (h : fE l z = some xs) (hx : aB T x = .d (.int .i64 l)) (hy : aB T y = .d (.int .i64 c)) (hc : l ≤ c ∧ c ≤ 4294967296) :
    aA (.mkslF k (e z) x y) (aB T) σ n = some (.loc n 0 xs.length, ak σ n (some (.lst false k (xs.map e))), n + 1) := by
  unfold fE at h
  split at h
  · rename_i hh
    cases h
    simp only [aA, hx, hy, if_pos (show 0 ≤ l ∧ l ≤ c ∧ c ≤ 4294967296 from ⟨hh.1, hc.1, hc.2⟩)]
    simp
  · cases h
theorem uc {zero : List D} {xs : List α} {id off len : Nat} {k : Option Nat} (hx : aB T x = .loc id off len) (hid : σ id = some (.lst true k (xs.map e))) (hl : off + len = xs.length) :
    aA (.clear k zero x) (aB T) σ n = some (.d (.tup []), ak σ id (some (.lst true k ((xs.take off).map e))), n) := by
  simp only [aA, hx, hid, List.map_take]
  rw [if_pos ⟨trivial, by simpa using hl⟩]
theorem jA {xs ys : List α} {a b : Int} (h : cP xs a b = some ys) : (0 ≤ a ∧ a ≤ b ∧ b ≤ xs.length) ∧ ys = (xs.drop a.toNat).take (b.toNat - a.toNat) := by
  unfold cP at h
  split at h
  · rename_i hc; cases h; exact ⟨hc, rfl⟩
  · cases h
theorem kB {xs ys : List α} {lo hi : Option AX} {a b : Int} {id len : Nat} {m : Bool} (h : cP xs a b = some ys) (hx : aB T x = .loc id 0 len) (hid : σ id = some (.lst m k (xs.map e))) (hlen : len = xs.length) (hl : gi T 0 lo a) (hh : gi T xs.length hi b) :
    aA (.slc k x lo hi) (aB T) σ n = some (.loc id a.toNat (b.toNat - a.toNat), σ, n) := by
  obtain ⟨hc, _⟩ := jA h
  subst hlen
  have hb := pV (len := xs.length) (T := T) (lo := lo) (hi := hi) hl hh hc
  have hk : ca σ (.loc id 0 xs.length) = some k := by simp [ca, hid]
  simp only [aA, hx, hk, if_true, hb, Nat.zero_add]
theorem ud {xs zs : List α} {lo hi : Option AX} {a : Int} {id len : Nat} (h : cP xs a xs.length = some zs) (hx : aB T x = .loc id 0 len) (hid : σ id = some (.lst true k ((xs.take a.toNat).map e))) (hlen : len = xs.length) (hl : gi T 0 lo 0) (hh : gi T xs.length hi a) :
    aA (.slc k x lo hi) (aB T) σ n = some (.loc id 0 (xs.take a.toNat).length, σ, n) := by
  obtain ⟨hc, _⟩ := jA h
  subst hlen
  have hb := pV (len := xs.length) (T := T) (lo := lo) (hi := hi) hl hh (by omega : (0 : Int) ≤ 0 ∧ 0 ≤ a ∧ a ≤ xs.length)
  have hk : ca σ (.loc id 0 xs.length) = some k := by simp [ca, hid]
  simp only [aA, hx, hk, if_true, hb]
  have : (xs.take a.toNat).length = a.toNat := by rw [List.length_take]; omega
  rw [this]; simp
theorem ue {xs pre ys zs : List α} {b : Int} {id : Nat} {m' : Bool} (h0 : cP xs 0 b = some pre) (h : cB pre ys = some zs) (hx : aB T x = .loc id (0 : Int).toNat (b.toNat - (0 : Int).toNat)) (hid : σ id = some (.lst true k (xs.map e)))
    (hy : ∀ σ2 : ay, (∀ q, q ≠ id → σ2 q = σ q) → eo σ2 k (aB T y) = some (ys.map e)) :
    aA (.appendC k x y m') (aB T) σ n = some (.loc n 0 zs.length, ak (ak σ id none) n (some (.lst true k (zs.map e))), n + 1) := by
  obtain ⟨hc, rfl⟩ := jA h0
  obtain ⟨h1, rfl⟩ := pS h
  have hx' : aB T x = .loc id 0 b.toNat := hx
  have hlen : b.toNat ≤ (xs.map e).length := by rw [List.length_map]; omega
  simp only [aA, hx', hid, if_pos hlen]
  have hs := hy (ak σ id (some (.lst true k ((xs.map e).take b.toNat)))) (fun q hq => aR _ _ hq)
  simp only [du, hs, bg]
  have h1' : (xs.take b.toNat).length + ys.length ≤ dE := by simpa [dE] using h1
  rw [if_pos ⟨trivial, by simp; omega, by simpa [← List.map_take] using h1'⟩]
  have uu : ∀ b', ak (ak σ id b') id none = ak σ id none := fun b' => by funext q; simp only [ak]; split <;> rfl
  rw [uu]
  simp [← List.map_take]
theorem uf {xs ys : List α} {a b : Int} {id : Nat} {m : Bool} (h : cP xs a b = some ys) (hx : aB T x = .loc id a.toNat (b.toNat - a.toNat)) (hid : σ id = some (.lst m k (xs.map e))) : eo σ k (aB T x) = some (ys.map e) := by
  obtain ⟨hc, rfl⟩ := jA h
  simp only [eo, dW, hx, ca, hid, if_true, di]
  rw [if_pos (by simp; omega)]
  simp [List.map_take, List.map_drop]
theorem my {xs : List α} {z : α} {l : Int} (h : fE l z = some xs) : l ≤ l ∧ l ≤ 4294967296 := by
  unfold fE at h
  split at h
  · rename_i hh; exact ⟨Int.le_refl _, hh.2⟩
  · cases h
theorem cS {i : Int} (h : IntKind.i64.wrap (i + 1) = i + 1) (hx : aB T x = .d (.int .i64 i)) (hy : aB T y = .d (.int .i64 1)) : aA (.bin .add x y) (aB T) σ n = some (.d (.int .i64 (i + 1)), σ, n) := by
  simp [aA, jg, hx, hy, jZ, h]
theorem cT {i b : Int} (h0 : bK i) (h : i < b) (hb : IntKind.i64.wrap b = b) : IntKind.i64.wrap (i + 1) = i + 1 := by
  rw [lH] at hb ⊢
  simp [bK, IntKind.min, IntKind.max, IntKind.signed, IntKind.bits] at *
  omega
theorem aO {c : AX} {b : Bool} {v : V} (hc : aB T c = .d (.bool b)) (hb : b = true) (hx : aB T x = v) : aA (.pick c x y) (aB T) σ n = some (v, σ, n) := by
  subst hb; subst hx; simp [aA, hc]
theorem aS {c : AX} {b : Bool} {v : V} (hc : aB T c = .d (.bool b)) (hb : ¬ b = true) (hy : aB T y = v) : aA (.pick c x y) (aB T) σ n = some (v, σ, n) := by
  subst hy; simp at hb; subst hb; simp [aA, hc]
theorem gE {k : Ck} {ks : List Ck} {a b : D} {l m : List D} {p q : Bool} (h : dq k a b = some p) (h' : bY ks l m = some q) : bY (k :: ks) (a :: l) (b :: m) = some (p && q) := by
  simp only [bY, h]
  cases p <;> simp [h']
theorem kC {neg : Bool} {ks : List Ck} {p q : List D} {b : Bool} (hx : aB T x = .d (.agg p)) (hy : aB T y = .d (.agg q)) (h : gW ks (.d (.agg p)) (.d (.agg q)) = some b) : aA (.eqS neg ks x y) (aB T) σ n = some (.d (.bool (if neg then !b else b)), σ, n) := by
  simp [aA, hx, hy, h]
theorem mz {kb : Option Nat} {pre post : List D} {xs : List α} {i : Int} {v : α} {j : Nat} (h : bh xs i = some v) (hj : pre.length = j) (hk : kb ≠ none) : dV kb (.agg (pre ++ (xs.map e ++ post))) (j + i.toNat * 1) none = some (e v) := by
  obtain ⟨h0, h1⟩ := ky h
  have hlt := (kz h).2
  subst hj
  have h2 : xs[i.toNat] = v := by rw [bW hlt] at h1; exact ap h1
  simp [dV, cX, Ne.symm hk, List.getElem?_append, hlt, h2]
def D.sc : D → Bool
  | .int .. | .bool .. | .str .. => true
  | _ => false
def D.flat1 : D → Bool
  | .agg cs => cs.all D.sc
  | d => d.sc
def D.flat : D → Bool
  | .tup cs => cs.all D.flat1
  | d => d.flat1
theorem DRel.sc {O O' : Nat → Nat → Prop} {d : D} {v : Value} (h : DRel O w d v) (hd : d.sc = true) : DRel O' w' d v := by
  cases h <;> simp [D.sc] at hd
  case int k n hr => exact .int k n hr
  case bool b => exact .bool b
  case str s hr => exact .str s hr
theorem DRel.flat1 {O O' : Nat → Nat → Prop} {d : D} {v : Value} (h : DRel O w d v) (hd : d.flat1 = true) : DRel O' w' d v := by
  cases d with
  | agg ds =>
    cases h with
    | agg _ cs hl hr =>
      refine .agg ds cs hl fun i d v h1 h2 => (hr i d v h1 h2).sc ?_
      exact List.all_eq_true.1 hd d (dc h1)
  | _ => exact h.sc hd
theorem DRel.flat {O O' : Nat → Nat → Prop} {d : D} {v : Value} (h : DRel O w d v) (hd : d.flat = true) : DRel O' w' d v := by
  cases d with
  | tup ds =>
    cases h with
    | tup _ cs hl hr =>
      refine .tup ds cs hl fun i d v h1 h2 => (hr i d v h1 h2).flat1 ?_
      exact List.all_eq_true.1 hd d (dc h1)
  | _ => exact h.flat1 hd
inductive cZ (σ : ay) : V → D → Prop
  | d (x : D) : cZ σ (.d x) x
  | sub {v : V} {x y : D} : cZ σ v x → cF x y → cZ σ v y
  | loc {id off len : Nat} {m : Bool} {k : Option Nat} {els : List D} : σ id = some (.lst m k els) → off + len ≤ els.length → cZ σ (.loc id off len) (.vec k ((els.drop off).take len))
  | var1 {id : Nat} {c : V} {x : D} : σ id = some (.var [c]) → cZ σ c x → x.shape none = true → cZ σ (.ptr id 0 0) (.cptr none x 0)
  | var {id j : Nat} {cs : List V} {ds : List D} : σ id = some (.var cs) → cs.length = ds.length → (∀ (i : Nat) c x, cs[i]? = some c → ds[i]? = some x → cZ σ c x) → cZ σ (.ptr id 0 j) (.cptr (some ds.length) (.agg ds) j)
  | elem {id i j : Nat} {m : Bool} {k : Option Nat} {els : List D} {x : D} : σ id = some (.lst m k els) → els[i]? = some x → cZ σ (.ptr id i j) (.cptr k x j)
  | agg {cs : List V} {ds : List D} : cs.length = ds.length → (∀ (i : Nat) c x, cs[i]? = some c → ds[i]? = some x → cZ σ c x) → cZ σ (.agg cs) (.agg ds)
  | func {f : Nat} {cs : List V} {ds : List D} : cs.length = ds.length → (∀ (i : Nat) c x, cs[i]? = some c → ds[i]? = some x → cZ σ c x) → cZ σ (.func f cs) (.func f ds)
theorem DRel.free {O : Nat → Nat → Prop} {d : D} {v : Value} (h : DRel O w d v) : DRel (fun _ _ => False) w d v := h.mono fun b o v h1 _ => ⟨h1, fun h => h⟩
theorem cZ.sound (hs : aF A μ σ w) {v : V} {d : D} (h : cZ σ v d) : ∀ {u : Value}, aC μ (ar A μ σ) w v u → DRel (fun _ _ => False) w d u := by
  induction h with
  | d x => intro u h; cases h with | d _ _ h => exact h.free
  | sub _ hsub ih => intro u h; exact (ih h).sub hsub
  | loc hid hle =>
    rename_i id off len m k els
    intro u h
    have h2 := (iz (hs.frz hid) (v := .loc id off len) (d := .vec k ((els.drop off).take len)) (by simp [cD, bg, hle]) ((aH.frz (w := w) hid).keepV hs.alt h))
    exact h2.free
  | var1 hid _ hsh ih =>
    rename_i id c x _
    intro u h
    cases h with
    | ptr _ _ _ b k hp =>
      obtain ⟨b', cc, ty, fr, g1, g2, g3, g4, g5⟩ := hs.blks id _ hid
      rw [g1] at hp; cases hp
      have hlt : 0 < cc.size := by simp at g4; omega
      obtain ⟨q1, q2⟩ := g5 0 c cc[0] rfl (by simp [hlt])
      have hx := ih q2
      have hc0 : ∀ (i : Nat) y, x.cells[i]? = some y → i = 0 ∧ y = x := by
        intro i y hy
        cases x <;> simp [D.shape] at hsh <;> simp only [D.cells] at hy <;> cases i <;> simp at hy <;> exact ⟨rfl, hy.symm⟩
      have := DRel.cptr (own := fun _ _ => False) (w := w) none x 0 b 0 (fun i => cc[0]) hsh (fun i y hy => by
          obtain ⟨rfl, rfl⟩ := hc0 i y hy
          rw [dM g2]; simp [hlt]) (fun _ _ _ h => h) (fun i y hy => by obtain ⟨rfl, rfl⟩ := hc0 i y hy; exact hx) (fun _ _ _ => q1)
      simpa using this
  | var hid hl _ ih =>
    rename_i id j cs ds _
    intro u h
    cases h with
    | ptr _ _ _ b k hp =>
      obtain ⟨b', cc, ty, fr, g1, g2, g3, g4, g5⟩ := hs.blks id _ hid
      rw [g1] at hp; cases hp
      have key : ∀ (i : Nat) y, ds[i]? = some y → ∃ v, cc[i]? = some v ∧ v.oneCell' = true ∧ DRel (fun _ _ => False) w y v := by
        intro i y hy
        have hi : i < ds.length := (List.getElem?_eq_some_iff.1 hy).1
        have hc : cs[i]? = some (cs[i]'(by omega)) := by simp
        obtain ⟨q1, q2⟩ := g5 i _ (cc[i]'(by omega)) hc (by simp)
        exact ⟨_, by simp, q1, ih i _ y hc hy q2⟩
      have := DRel.cptr (own := fun _ _ => False) (w := w) (some ds.length) (.agg ds) j b 0 (fun i => cc.getD i Go.undef) (by simp [D.shape]) (fun i y hy => by
          obtain ⟨v, h1, _⟩ := key i y hy
          rw [dM g2]; simp [h1]) (fun _ _ _ h => h) (fun i y hy => by
          obtain ⟨v, h1, _, h3⟩ := key i y hy
          simpa [h1] using h3) (fun i y hy => by
          obtain ⟨v, h1, h2, _⟩ := key i y hy
          simpa [h1] using h2)
      simpa using this
  | elem hid hx =>
    rename_i id i j m k els x
    intro u h
    cases h with
    | ptr _ _ _ b kp hp =>
      rcases hs.blks id _ hid with ⟨g1, rfl⟩ | ⟨b', c, ty, fr, g1, g2, g3, g4, g5⟩
      · simp at hx
      · rw [g1] at hp; cases hp
        obtain ⟨q1, q2⟩ := g5 i x hx
        refine .cptr k x j b (i * am k) (fun j => c.getD (i * am k + j) Go.undef) q1 (fun jj y hy => ?_) (fun _ _ _ h => h) (fun jj y hy => ?_) (fun jj y hy => ?_)
        · obtain ⟨v, h1, _⟩ := q2 jj y hy
          rw [dM g2]; simp [h1]
        · obtain ⟨v, h1, _, h3⟩ := q2 jj y hy
          simpa [h1] using h3.free
        · obtain ⟨v, h1, h2, _⟩ := q2 jj y hy
          simpa [h1] using h2
  | agg hl _ ih =>
    rename_i cs ds _
    intro u h
    cases h with
    | agg _ us h1 h2 =>
      refine .agg ds us (by omega) fun i x v hx hv => ?_
      have hi : i < cs.length := by have := (List.getElem?_eq_some_iff.1 hx).1; omega
      exact ih i cs[i] x (by simp [hi]) hx (h2 i cs[i] v (by simp [hi]) hv)
  | func hl _ ih =>
    rename_i f cs ds _
    intro u h
    cases h with
    | func _ _ us h1 h2 =>
      refine .func f ds us (by omega) fun i x v hx hv => ?_
      have hi : i < cs.length := by have := (List.getElem?_eq_some_iff.1 hx).1; omega
      exact ih i cs[i] x (by simp [hi]) hx (h2 i cs[i] v (by simp [hi]) hv)
def eM (σ : ay) : List V → List D → Prop
  | [], [] => True
  | v :: l, d :: r => cZ σ v d ∧ eM σ l r
  | _, _ => False
theorem eM.all : ∀ {l : List V} {r : List D}, eM σ l r → l.length = r.length ∧ ∀ (i : Nat) x y, l[i]? = some x → r[i]? = some y → cZ σ x y
  | [], [], _ => ⟨rfl, fun i x y h => by simp at h⟩
  | x :: l, y :: r, h => by
    obtain ⟨h1, h2⟩ := eM.all h.2
    refine ⟨by simp [h1], fun i u v hu hv => ?_⟩
    cases i with
    | zero => simp at hu hv; subst hu; subst hv; exact h.1
    | succ i => exact h2 i u v (by simpa using hu) (by simpa using hv)
  | [], _ :: _, h => h.elim
  | _ :: _, [], h => h.elim
end
end Go.AM
