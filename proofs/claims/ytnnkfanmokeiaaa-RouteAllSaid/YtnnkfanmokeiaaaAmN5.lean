import Derived.Test.YtnnkfanmokeiaaaAmN4
set_option linter.unusedVariables false
set_option linter.unusedSectionVars false
set_option linter.unusedSimpArgs false
namespace Go.AM
open Go Go.RowKit
variable [Glob]
def eL {α : Type} (k : Option Nat) (e : α → D) (l : List α) : D := .vec k (l.map e)
def eA2 {α : Type} (e : α → D) (a : A2 α) : D := .agg ((e a.a0).cells ++ ((e a.a1).cells ++ []))
def aC {α : Type} (e : α → D) (a : A8 α) : D := .agg ((e a.a0).cells ++ ((e a.a1).cells ++ ((e a.a2).cells ++ ((e a.a3).cells ++ ((e a.a4).cells ++ ((e a.a5).cells ++ ((e a.a6).cells ++ ((e a.a7).cells ++ []))))))))
def qg (P : Program) {α β : Type} (g : D) (ea : α → D) (er : β → D) (f : α → Option β) : Prop := ∃ fn caps, g = .func fn caps ∧ ∀ a r, f a = some r → PCall P fn ([ea a] ++ caps) (er r)
section
variable {P : Program} {N na : Nat} {A : Nat → Nat → Prop} {μ μ' : Nat → Option bI} {T T' : Nat → V} {σ σ' : aL} {w w' : World} {a : Act} {n n' : Nat} {l : List bL} {dst : Option Nat} {op : bF} {K : S → Prop} {α : Type} {e : α → D} {x y lo hi : AX} {k : Option Nat}
theorem nU {l : List α} {i : Int} {v : α} (h : be l i = some v) : 0 ≤ i ∧ l[i.toNat]? = some v := by
  unfold be at h; split at h
  · exact ⟨by assumption, h⟩
  · cases h
theorem nV {l : List α} {i : Int} {v : α} (h : be l i = some v) : 0 ≤ i ∧ i.toNat < l.length := by
  obtain ⟨h0, h1⟩ := nU h
  exact ⟨h0, (List.getElem?_eq_some_iff.1 h1).1⟩
theorem ml {l r : List α} {i : Int} {v : α} (h : di l i v = some r) : 0 ≤ i ∧ i.toNat < l.length ∧ r = l.set i.toNat v := by
  unfold di at h; split at h
  · split at h
    · cases h; exact ⟨by assumption, by assumption, rfl⟩
    · cases h
  · cases h
theorem kc {l r : List α} {i : Int} {v : α} (h : di l i v = some r) : r.length = l.length := by rw [(ml h).2.2, List.length_set]
theorem zC {xs ys zs : List α} (h : cY xs ys = some zs) : xs.length + ys.length ≤ 4294967296 ∧ zs = xs ++ ys := by
  unfold cY at h; split at h
  · cases h; exact ⟨by assumption, rfl⟩
  · cases h
theorem zD {l : List α} {i : Nat} {v : α} (h : l[i]? = some v) : (l.map e)[i]? = some (e v) := by rw [List.getElem?_map, h]; rfl
theorem bP {xs : List α} {i : Int} {v : α} {kk : IntKind} (h : be xs i = some v) (hx : aF T x = .d (.vec k (xs.map e))) (hy : aF T y = .d (.int kk i)) : aI (.iaddr k x y) (aF T) σ n = some (.d (.cptr k (e v) 0), σ, n) := by
  obtain ⟨h0, h1⟩ := nU h
  simp [aI, hx, hy, h0, zD h1]
theorem fY {xs : List α} {i : Int} {v : α} {kk : IntKind} {id len : Nat} {m : Bool} (h : be xs i = some v) (hx : aF T x = .loc id 0 len) (hid : σ id = some (.lst m k (xs.map e))) (hl : len = xs.length) (hy : aF T y = .d (.int kk i)) : aI (.iaddr k x y) (aF T) σ n = some (.ptr id i.toNat 0, σ, n) := by
  obtain ⟨h0, h1⟩ := nV h
  have hk : cI σ (.loc id 0 len) = some k := by simp [cI, hid]
  have h2 : i < (len : Int) := by omega
  simp [aI, hx, hy, h0, hk, h2]
theorem g8 {xs : List α} {i : Int} {v : α} {id j : Nat} {m : Bool} {kb : Option Nat} {d : D} (h : be xs i = some v) (hx : aF T x = .ptr id i.toNat j) (hid : σ id = some (.lst m kb (xs.map e))) (hd : fH kb (e v) j k = some d) : aI (.load k x) (aF T) σ n = some (.d d, σ, n) := by
  obtain ⟨h0, h1⟩ := nU h
  simp [aI, cW, hx, hid, h1, hd]
theorem ke {xs xs' : List α} {i : Int} {v' : α} {id : Nat} {kb : Option Nat} (h' : di xs i v' = some xs') (hx : aF T x = .ptr id i.toNat 0) (hy : aF T y = .d (e v')) (hid : σ id = some (.lst true kb (xs.map e))) (hs : (e v').shape kb = true) (h1 : (e v').cells.all D.one = true) :
    aI (.store kb x y) (aF T) σ n = some (V.undef, aw σ id (some (.lst true kb (xs'.map e))), n) := by
  obtain ⟨h0, hlt, rfl⟩ := ml h'
  obtain ⟨v, hv⟩ : ∃ v, xs[i.toNat]? = some v := ⟨xs[i.toNat], by simp [hlt]⟩
  have hd : jS kb (e v) 0 kb (e v') = some (e v') := by unfold jS; rw [if_pos ⟨hs, h1⟩]; simp
  simp only [aI, fg, hx, hy, hid, List.getElem?_map, hv, Option.map_some, hd, List.map_set]
theorem jn {op : bF} {v v' : V} {σ' : aL} {n' : Nat} (h : aI op (aF T) σ n = some (v, σ', n')) (hv : v = v') : aI op (aF T) σ n = some (v', σ', n') := hv ▸ h
theorem zE {op : bF} {v : V} {σ1 σ' : aL} {n' : Nat} (h : aI op (aF T) σ n = some (v, σ1, n')) (hv : σ1 = σ') : aI op (aF T) σ n = some (v, σ', n') := hv ▸ h
theorem gC {xs : List α} {i : Int} {v : α} {kk : IntKind} {dv : D} (h : be xs i = some v) (hx : aF T x = .d (.vec k (xs.map e))) (hy : aF T y = .d (.int kk i)) (hu : e v = dv) : aI (.iaddr k x y) (aF T) σ n = some (.d (.cptr k dv 0), σ, n) := by
  rw [← hu]; exact bP h hx hy
def iS (T : Nat → V) (d : Int) : Option AX → Int → Prop
  | none, i => i = d
  | some x, i => ∃ k, aF T x = .d (.int k i)
theorem tZ {len : Nat} {lo hi : Option AX} {a b : Int} (hl : iS T 0 lo a) (hh : iS T len hi b) (h : 0 ≤ a ∧ a ≤ b ∧ b ≤ len) : fx len (lo.map (aF T)) (hi.map (aF T)) = some (a.toNat, b.toNat) := by
  unfold fx
  cases lo with
  | none =>
    simp [iS] at hl; subst hl
    cases hi with
    | none => simp [iS] at hh; subst hh; simp
    | some y => obtain ⟨k, hk⟩ := hh; simp [hk, gW, h]
  | some x =>
    obtain ⟨k, hk⟩ := hl
    cases hi with
    | none => simp [iS] at hh; subst hh; simp [hk, gW, h]
    | some y => obtain ⟨k', hk'⟩ := hh; simp [hk, hk', gW, h]
theorem fk {xs : List α} (hx : aF T x = .d (.vec k (xs.map e))) : fv σ k (aF T x) = some (xs.map e) := by
  rw [hx]; simp [fv, fI, cI, eC]
theorem t6 {xs : List α} {id len : Nat} {m : Bool} (hx : aF T x = .loc id 0 len) (hid : σ id = some (.lst m k (xs.map e))) (hl : len = xs.length) : fv σ k (aF T x) = some (xs.map e) := by
  subst hl; rw [hx]
  have : (xs.map e).take xs.length = xs.map e := List.take_of_length_le (by simp)
  simp [fv, fI, cI, eC, hid, this]
theorem eR {xs ys zs : List α} {id len : Nat} {m m' : Bool} (h : cY xs ys = some zs) (hx : aF T x = .loc id 0 len) (hid : σ id = some (.lst m k (xs.map e))) (hl : len = xs.length) (hy : fv σ k (aF T y) = some (ys.map e)) :
    aI (.append k x y m') (aF T) σ n = some (.loc n 0 zs.length, aw (aw σ id none) n (some (.lst m k (zs.map e))), n + 1) := by
  obtain ⟨h1, rfl⟩ := zC h
  subst hl
  simp only [aI, eX, hy, hx, hid]
  simp [fQ, h1]
theorem t7 {xs : List α} {z : α} {l c : Int} (h : fj l z = some xs) (hx : aF T x = .d (.int .i64 l)) (hy : aF T y = .d (.int .i64 c)) (hc : l ≤ c ∧ c ≤ 4294967296) :
    aI (.mkslice k (e z) x y) (aF T) σ n = some (.loc n 0 xs.length, aw σ n (some (.lst true k (xs.map e))), n + 1) := by
  unfold fj at h
  split at h
  · rename_i hh
    cases h
    simp only [aI, hx, hy, if_pos (show 0 ≤ l ∧ l ≤ c ∧ c ≤ 4294967296 from ⟨hh.1, hc.1, hc.2⟩)]
    simp
  · cases h
theorem zF {xs : List α} {z : α} {l c : Int} (h : fj l z = some xs) (hx : aF T x = .d (.int .i64 l)) (hy : aF T y = .d (.int .i64 c)) (hc : l ≤ c ∧ c ≤ 4294967296) :
    aI (.mkslF k (e z) x y) (aF T) σ n = some (.loc n 0 xs.length, aw σ n (some (.lst false k (xs.map e))), n + 1) := by
  unfold fj at h
  split at h
  · rename_i hh
    cases h
    simp only [aI, hx, hy, if_pos (show 0 ≤ l ∧ l ≤ c ∧ c ≤ 4294967296 from ⟨hh.1, hc.1, hc.2⟩)]
    simp
  · cases h
theorem zG {zero : List D} {xs : List α} {id off len : Nat} {k : Option Nat} (hx : aF T x = .loc id off len) (hid : σ id = some (.lst true k (xs.map e))) (hl : off + len = xs.length) :
    aI (.clear k zero x) (aF T) σ n = some (.d (.tup []), aw σ id (some (.lst true k ((xs.take off).map e))), n) := by
  simp only [aI, hx, hid, List.map_take]
  rw [if_pos ⟨trivial, by simpa using hl⟩]
theorem qh {xs ys : List α} {a b : Int} (h : eF xs a b = some ys) : (0 ≤ a ∧ a ≤ b ∧ b ≤ xs.length) ∧ ys = (xs.drop a.toNat).take (b.toNat - a.toNat) := by
  unfold eF at h
  split at h
  · rename_i hc; cases h; exact ⟨hc, rfl⟩
  · cases h
theorem t8 {xs ys : List α} {lo hi : Option AX} {a b : Int} {id len : Nat} {m : Bool} (h : eF xs a b = some ys) (hx : aF T x = .loc id 0 len) (hid : σ id = some (.lst m k (xs.map e))) (hlen : len = xs.length) (hl : iS T 0 lo a) (hh : iS T xs.length hi b) :
    aI (.slc k x lo hi) (aF T) σ n = some (.loc id a.toNat (b.toNat - a.toNat), σ, n) := by
  obtain ⟨hc, _⟩ := qh h
  subst hlen
  have hb := tZ (len := xs.length) (T := T) (lo := lo) (hi := hi) hl hh hc
  have hk : cI σ (.loc id 0 xs.length) = some k := by simp [cI, hid]
  simp only [aI, hx, hk, if_true, hb, Nat.zero_add]
theorem zH {xs zs : List α} {lo hi : Option AX} {a : Int} {id len : Nat} (h : eF xs a xs.length = some zs) (hx : aF T x = .loc id 0 len) (hid : σ id = some (.lst true k ((xs.take a.toNat).map e))) (hlen : len = xs.length) (hl : iS T 0 lo 0) (hh : iS T xs.length hi a) :
    aI (.slc k x lo hi) (aF T) σ n = some (.loc id 0 (xs.take a.toNat).length, σ, n) := by
  obtain ⟨hc, _⟩ := qh h
  subst hlen
  have hb := tZ (len := xs.length) (T := T) (lo := lo) (hi := hi) hl hh (by omega : (0 : Int) ≤ 0 ∧ 0 ≤ a ∧ a ≤ xs.length)
  have hk : cI σ (.loc id 0 xs.length) = some k := by simp [cI, hid]
  simp only [aI, hx, hk, if_true, hb]
  have : (xs.take a.toNat).length = a.toNat := by rw [List.length_take]; omega
  rw [this]; simp
theorem qi {xs : List α} {z : α} {l : Int} (h : fj l z = some xs) : l ≤ l ∧ l ≤ 4294967296 := by
  unfold fj at h
  split at h
  · rename_i hh; exact ⟨Int.le_refl _, hh.2⟩
  · cases h
theorem zI {kk : IntKind} {p q r : Int} (h : mg p q = some r) (hx : aF T x = .d (.int kk p)) (hy : aF T y = .d (.int kk q)) : aI (.bin .rem x y) (aF T) σ n = some (.d (.int kk r), σ, n) := by
  unfold mg at h; split at h
  · cases h
  · rename_i h0; cases h; simp [aI, kI, hx, hy, lP, h0]
theorem ca {i : Int} (h : IntKind.i64.wrap (i + 1) = i + 1) (hx : aF T x = .d (.int .i64 i)) (hy : aF T y = .d (.int .i64 1)) : aI (.bin .add x y) (aF T) σ n = some (.d (.int .i64 (i + 1)), σ, n) := by
  simp [aI, kI, hx, hy, lP, h]
theorem cb {i b : Int} (h0 : bv i) (h : i < b) (hb : IntKind.i64.wrap b = b) : IntKind.i64.wrap (i + 1) = i + 1 := by
  rw [pr] at hb ⊢
  simp [bv, IntKind.min, IntKind.max, IntKind.signed, IntKind.bits] at *
  omega
theorem aW {c : AX} {b : Bool} {v : V} (hc : aF T c = .d (.bool b)) (hb : b = true) (hx : aF T x = v) : aI (.pick c x y) (aF T) σ n = some (v, σ, n) := by
  subst hb; subst hx; simp [aI, hc]
theorem bp {c : AX} {b : Bool} {v : V} (hc : aF T c = .d (.bool b)) (hb : ¬ b = true) (hy : aF T y = v) : aI (.pick c x y) (aF T) σ n = some (v, σ, n) := by
  subst hy; simp at hb; subst hb; simp [aI, hc]
theorem ua {k : Ck} {ks : List Ck} {a b : D} {l m : List D} {p q : Bool} (h : dL k a b = some p) (h' : cK ks l m = some q) : cK (k :: ks) (a :: l) (b :: m) = some (p && q) := by
  simp only [cK, h]
  cases p <;> simp [h']
theorem nW {neg : Bool} {ks : List Ck} {p q : List D} {b : Bool} (hx : aF T x = .d (.agg p)) (hy : aF T y = .d (.agg q)) (h : jT ks (.d (.agg p)) (.d (.agg q)) = some b) : aI (.eqS neg ks x y) (aF T) σ n = some (.d (.bool (if neg then !b else b)), σ, n) := by
  simp [aI, hx, hy, h]
theorem k4 {kb : Option Nat} {pre post : List D} {xs : List α} {i : Int} {v : α} {j : Nat} (h : be xs i = some v) (hj : pre.length = j) (hk : kb ≠ none) : fH kb (.agg (pre ++ (xs.map e ++ post))) (j + i.toNat * 1) none = some (e v) := by
  obtain ⟨h0, h1⟩ := nU h
  have hlt := (nV h).2
  subst hj
  have h2 : xs[i.toNat] = v := by rw [bU hlt] at h1; exact bM h1
  simp [fH, eB, Ne.symm hk, List.getElem?_append, hlt, h2]
def D.sc : D → Bool
  | .int .. | .bool .. | .str .. => true
  | _ => false
def D.flat1 : D → Bool
  | .agg cs => cs.all D.sc
  | d => d.sc
def D.flat : D → Bool
  | .tup cs => cs.all D.flat1
  | d => d.flat1
theorem DRel.sc {O O' : Nat → Nat → Prop} {d : D} {v : Value} (h : DRel O w d v) (hd : d.sc = true) : DRel O' w' d v := by
  cases h <;> simp [D.sc] at hd
  case int k n hr => exact .int k n hr
  case bool b => exact .bool b
  case str s hr => exact .str s hr
theorem DRel.flat1 {O O' : Nat → Nat → Prop} {d : D} {v : Value} (h : DRel O w d v) (hd : d.flat1 = true) : DRel O' w' d v := by
  cases d with
  | agg ds =>
    cases h with
    | agg _ cs hl hr =>
      refine .agg ds cs hl fun i d v h1 h2 => (hr i d v h1 h2).sc ?_
      exact List.all_eq_true.1 hd d (c7 h1)
  | _ => exact h.sc hd
theorem DRel.flat {O O' : Nat → Nat → Prop} {d : D} {v : Value} (h : DRel O w d v) (hd : d.flat = true) : DRel O' w' d v := by
  cases d with
  | tup ds =>
    cases h with
    | tup _ cs hl hr =>
      refine .tup ds cs hl fun i d v h1 h2 => (hr i d v h1 h2).flat1 ?_
      exact List.all_eq_true.1 hd d (c7 h1)
  | _ => exact h.flat1 hd
inductive ep (σ : aL) : V → D → Prop
  | d (x : D) : ep σ (.d x) x
  | sub {v : V} {x y : D} : ep σ v x → eg x y → ep σ v y
  | loc {id off len : Nat} {m : Bool} {k : Option Nat} {els : List D} : σ id = some (.lst m k els) → off + len ≤ els.length → ep σ (.loc id off len) (.vec k ((els.drop off).take len))
  | var1 {id : Nat} {c : V} {x : D} : σ id = some (.var [c]) → ep σ c x → x.shape none = true → ep σ (.ptr id 0 0) (.cptr none x 0)
  | var {id j : Nat} {cs : List V} {ds : List D} : σ id = some (.var cs) → cs.length = ds.length → (∀ (i : Nat) c x, cs[i]? = some c → ds[i]? = some x → ep σ c x) → ep σ (.ptr id 0 j) (.cptr (some ds.length) (.agg ds) j)
  | elem {id i j : Nat} {m : Bool} {k : Option Nat} {els : List D} {x : D} : σ id = some (.lst m k els) → els[i]? = some x → ep σ (.ptr id i j) (.cptr k x j)
  | agg {cs : List V} {ds : List D} : cs.length = ds.length → (∀ (i : Nat) c x, cs[i]? = some c → ds[i]? = some x → ep σ c x) → ep σ (.agg cs) (.agg ds)
  | func {f : Nat} {cs : List V} {ds : List D} : cs.length = ds.length → (∀ (i : Nat) c x, cs[i]? = some c → ds[i]? = some x → ep σ c x) → ep σ (.func f cs) (.func f ds)
theorem DRel.free {O : Nat → Nat → Prop} {d : D} {v : Value} (h : DRel O w d v) : DRel (fun _ _ => False) w d v := h.mono fun b o v h1 _ => ⟨h1, fun h => h⟩
theorem ep.sound (hs : bm A μ σ w) {v : V} {d : D} (h : ep σ v d) : ∀ {u : Value}, aR μ (aD A μ σ) w v u → DRel (fun _ _ => False) w d u := by
  induction h with
  | d x => intro u h; cases h with | d _ _ h => exact h.free
  | sub _ hsub ih => intro u h; exact (ih h).sub hsub
  | loc hid hle =>
    rename_i id off len m k els
    intro u h
    have h2 := (kU (hs.frz hid) (v := .loc id off len) (d := .vec k ((els.drop off).take len)) (by simp [dR, bz, hle]) ((bk.frz (w := w) hid).keepV hs.alt h))
    exact h2.free
  | var1 hid _ hsh ih =>
    rename_i id c x _
    intro u h
    cases h with
    | ptr _ _ _ b k hp =>
      obtain ⟨b', cc, ty, fr, g1, g2, g3, g4, g5⟩ := hs.blks id _ hid
      rw [g1] at hp; cases hp
      have hlt : 0 < cc.size := by simp at g4; omega
      obtain ⟨q1, q2⟩ := g5 0 c cc[0] rfl (by simp [hlt])
      have hx := ih q2
      have hc0 : ∀ (i : Nat) y, x.cells[i]? = some y → i = 0 ∧ y = x := by
        intro i y hy
        cases x <;> simp [D.shape] at hsh <;> simp only [D.cells] at hy <;> cases i <;> simp at hy <;> exact ⟨rfl, hy.symm⟩
      have := DRel.cptr (own := fun _ _ => False) (w := w) none x 0 b 0 (fun i => cc[0]) hsh (fun i y hy => by
          obtain ⟨rfl, rfl⟩ := hc0 i y hy
          rw [fu g2]; simp [hlt]) (fun _ _ _ h => h) (fun i y hy => by obtain ⟨rfl, rfl⟩ := hc0 i y hy; exact hx) (fun _ _ _ => q1)
      simpa using this
  | var hid hl _ ih =>
    rename_i id j cs ds _
    intro u h
    cases h with
    | ptr _ _ _ b k hp =>
      obtain ⟨b', cc, ty, fr, g1, g2, g3, g4, g5⟩ := hs.blks id _ hid
      rw [g1] at hp; cases hp
      have key : ∀ (i : Nat) y, ds[i]? = some y → ∃ v, cc[i]? = some v ∧ v.oneCell' = true ∧ DRel (fun _ _ => False) w y v := by
        intro i y hy
        have hi : i < ds.length := (List.getElem?_eq_some_iff.1 hy).1
        have hc : cs[i]? = some (cs[i]'(by omega)) := by simp
        obtain ⟨q1, q2⟩ := g5 i _ (cc[i]'(by omega)) hc (by simp)
        exact ⟨_, by simp, q1, ih i _ y hc hy q2⟩
      have := DRel.cptr (own := fun _ _ => False) (w := w) (some ds.length) (.agg ds) j b 0 (fun i => cc.getD i Go.undef) (by simp [D.shape]) (fun i y hy => by
          obtain ⟨v, h1, _⟩ := key i y hy
          rw [fu g2]; simp [h1]) (fun _ _ _ h => h) (fun i y hy => by
          obtain ⟨v, h1, _, h3⟩ := key i y hy
          simpa [h1] using h3) (fun i y hy => by
          obtain ⟨v, h1, h2, _⟩ := key i y hy
          simpa [h1] using h2)
      simpa using this
  | elem hid hx =>
    rename_i id i j m k els x
    intro u h
    cases h with
    | ptr _ _ _ b kp hp =>
      rcases hs.blks id _ hid with ⟨g1, rfl⟩ | ⟨b', c, ty, fr, g1, g2, g3, g4, g5⟩
      · simp at hx
      · rw [g1] at hp; cases hp
        obtain ⟨q1, q2⟩ := g5 i x hx
        refine .cptr k x j b (i * am k) (fun j => c.getD (i * am k + j) Go.undef) q1 (fun jj y hy => ?_) (fun _ _ _ h => h) (fun jj y hy => ?_) (fun jj y hy => ?_)
        · obtain ⟨v, h1, _⟩ := q2 jj y hy
          rw [fu g2]; simp [h1]
        · obtain ⟨v, h1, _, h3⟩ := q2 jj y hy
          simpa [h1] using h3.free
        · obtain ⟨v, h1, h2, _⟩ := q2 jj y hy
          simpa [h1] using h2
  | agg hl _ ih =>
    rename_i cs ds _
    intro u h
    cases h with
    | agg _ us h1 h2 =>
      refine .agg ds us (by omega) fun i x v hx hv => ?_
      have hi : i < cs.length := by have := (List.getElem?_eq_some_iff.1 hx).1; omega
      exact ih i cs[i] x (by simp [hi]) hx (h2 i cs[i] v (by simp [hi]) hv)
  | func hl _ ih =>
    rename_i f cs ds _
    intro u h
    cases h with
    | func _ _ us h1 h2 =>
      refine .func f ds us (by omega) fun i x v hx hv => ?_
      have hi : i < cs.length := by have := (List.getElem?_eq_some_iff.1 hx).1; omega
      exact ih i cs[i] x (by simp [hi]) hx (h2 i cs[i] v (by simp [hi]) hv)
def eH (σ : aL) : List V → List D → Prop
  | [], [] => True
  | v :: l, d :: r => ep σ v d ∧ eH σ l r
  | _, _ => False
theorem eH.all : ∀ {l : List V} {r : List D}, eH σ l r → l.length = r.length ∧ ∀ (i : Nat) x y, l[i]? = some x → r[i]? = some y → ep σ x y
  | [], [], _ => ⟨rfl, fun i x y h => by simp at h⟩
  | x :: l, y :: r, h => by
    obtain ⟨h1, h2⟩ := eH.all h.2
    refine ⟨by simp [h1], fun i u v hu hv => ?_⟩
    cases i with
    | zero => simp at hu hv; subst hu; subst hv; exact h.1
    | succ i => exact h2 i u v (by simpa using hu) (by simpa using hv)
  | [], _ :: _, h => h.elim
  | _ :: _, [], h => h.elim
theorem zJ {f : Nat} {ds : List D} {r : D} (h : PCall P f ds r) (hr : r.flat = true) {vals : List V} (hv : eH σ vals ds) : gf P f vals σ n (.d r) σ n := by
  refine ⟨h.1, fun A μ w vs hs hfr hlen hrel => ?_⟩
  obtain ⟨hl, hall⟩ := hv.all
  refine (h.2 (fun _ _ => False) w vs (fun _ _ h => h.elim) (hs.glob.mono fun b o v h1 h2 => ⟨h1, fun h => h.elim⟩) (by omega) fun i d v hd hv => ?_).mono fun e w' ⟨cv, he, hcv, hb⟩ => ?_
  · have hi : i < vals.length := by have := (List.getElem?_eq_some_iff.1 hd).1; omega
    exact (hall i vals[i] d (by simp [hi]) hd).sound hs (hrel i vals[i] v (by simp [hi]) hv)
  · have hblk : ∀ b, b < w.heap.size → w'.heap[b]? = w.heap[b]? := hb.block
    have g : bk μ σ w μ σ w' := ⟨hb.os, hb.tape, hb.output, hb.size, fun b hlt _ => hblk b hlt, fun b c ty fr hc => ⟨c, by rw [hblk b (eA hc)]; exact hc, rfl, fun _ _ => rfl⟩, fun b o h => .inl h, fun b h => .inl h, fun _ _ h => h⟩
    refine ⟨cv, μ, he, .d _ _ (hcv.flat hr), ⟨fun id blk hid => cH.keep g hs.alt (fun b k hp => ?_) (hs.blks id blk hid), hs.inj, hs.amb, fun b o h => ?_, hs.glob.mono (g.keepCell hs.alt)⟩, g, fun id h => .inl h⟩
    · obtain ⟨_, hc⟩ := cH.block (hs.blks id blk hid) hp
      exact hblk b (eA hc)
    · have := hs.alt b o h; have := g.size; omega
end
end Go.AM
