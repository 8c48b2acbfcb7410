import Derived.Test.YtnnkfanmokeiaaaAmN4
set_option linter.unusedVariables false
set_option linter.unusedSectionVars false
set_option linter.unusedSimpArgs false
namespace Go.AM
open Go Go.RowKit
variable [Glob]
def eL {α : Type} (k : Option Nat) (e : α → D) (l : List α) : D := .vec k (l.map e)
def eA8 {α : Type} (e : α → D) (a : A8 α) : D := .agg ((e a.a0).cells ++ ((e a.a1).cells ++ ((e a.a2).cells ++ ((e a.a3).cells ++ ((e a.a4).cells ++ ((e a.a5).cells ++ ((e a.a6).cells ++ ((e a.a7).cells ++ []))))))))
def qa (P : Program) {α β : Type} (g : D) (ea : α → D) (er : β → D) (f : α → Option β) : Prop := ∃ fn caps, g = .func fn caps ∧ ∀ a r, f a = some r → PCall P fn ([ea a] ++ caps) (er r)
def ue (P : Program) {α γ β : Type} (g : D) (ea : α → D) (eb : γ → D) (er : β → D) (f : α → γ → Option β) : Prop := ∃ fn caps, g = .func fn caps ∧ ∀ a b r, f a b = some r → PCall P fn ([ea a, eb b] ++ caps) (er r)
section
variable {P : Program} {N na : Nat} {A : Nat → Nat → Prop} {μ μ' : Nat → Option bh} {T T' : Nat → V} {σ σ' : az} {w w' : World} {a : Act} {n n' : Nat} {l : List br} {dst : Option Nat} {op : bd} {K : S → Prop} {α : Type} {e : α → D} {x y lo hi : AX} {k : Option Nat}
theorem kJ {l : List α} {i : Int} {v : α} (h : bv l i = some v) : 0 ≤ i ∧ l[i.toNat]? = some v := by
  unfold bv at h; split at h
  · exact ⟨by assumption, h⟩
  · cases h
theorem kK {l : List α} {i : Int} {v : α} (h : bv l i = some v) : 0 ≤ i ∧ i.toNat < l.length := by
  obtain ⟨h0, h1⟩ := kJ h
  exact ⟨h0, (List.getElem?_eq_some_iff.1 h1).1⟩
theorem iO {l r : List α} {i : Int} {v : α} (h : cK l i v = some r) : 0 ≤ i ∧ i.toNat < l.length ∧ r = l.set i.toNat v := by
  unfold cK at h; split at h
  · split at h
    · cases h; exact ⟨by assumption, by assumption, rfl⟩
    · cases h
  · cases h
theorem qb {l r : List α} {i : Int} {v : α} (h : cK l i v = some r) : r.length = l.length := by rw [(iO h).2.2, List.length_set]
theorem qc {xs ys zs : List α} (h : dq xs ys = some zs) : xs.length + ys.length ≤ 4294967296 ∧ zs = xs ++ ys := by
  unfold dq at h; split at h
  · cases h; exact ⟨by assumption, rfl⟩
  · cases h
theorem uf {l : List α} {i : Nat} {v : α} (h : l[i]? = some v) : (l.map e)[i]? = some (e v) := by rw [List.getElem?_map, h]; rfl
theorem du {xs : List α} {i : Int} {v : α} {kk : IntKind} (h : bv xs i = some v) (hx : aC T x = .d (.vec k (xs.map e))) (hy : aC T y = .d (.int kk i)) : aB (.iaddr k x y) (aC T) σ n = some (.d (.cptr k (e v) 0), σ, n) := by
  obtain ⟨h0, h1⟩ := kJ h
  simp [aB, hx, hy, h0, uf h1]
theorem iP {xs : List α} {i : Int} {v : α} {kk : IntKind} {id len : Nat} {m : Bool} (h : bv xs i = some v) (hx : aC T x = .loc id 0 len) (hid : σ id = some (.lst m k (xs.map e))) (hl : len = xs.length) (hy : aC T y = .d (.int kk i)) : aB (.iaddr k x y) (aC T) σ n = some (.ptr id i.toNat 0, σ, n) := by
  obtain ⟨h0, h1⟩ := kK h
  have hk : cg σ (.loc id 0 len) = some k := by simp [cg, hid]
  have h2 : i < (len : Int) := by omega
  simp [aB, hx, hy, h0, hk, h2]
theorem iQ {xs : List α} {i : Int} {v : α} {id j : Nat} {m : Bool} {kb : Option Nat} {d : D} (h : bv xs i = some v) (hx : aC T x = .ptr id i.toNat j) (hid : σ id = some (.lst m kb (xs.map e))) (hd : dY kb (e v) j k = some d) : aB (.load k x) (aC T) σ n = some (.d d, σ, n) := by
  obtain ⟨h0, h1⟩ := kJ h
  simp [aB, cn, hx, hid, h1, hd]
theorem qd {xs xs' : List α} {i : Int} {v' : α} {id : Nat} {kb : Option Nat} (h' : cK xs i v' = some xs') (hx : aC T x = .ptr id i.toNat 0) (hy : aC T y = .d (e v')) (hid : σ id = some (.lst true kb (xs.map e))) (hs : (e v').shape kb = true) (h1 : (e v').cells.all D.one = true) :
    aB (.store kb x y) (aC T) σ n = some (V.undef, ak σ id (some (.lst true kb (xs'.map e))), n) := by
  obtain ⟨h0, hlt, rfl⟩ := iO h'
  obtain ⟨v, hv⟩ : ∃ v, xs[i.toNat]? = some v := ⟨xs[i.toNat], by simp [hlt]⟩
  have hd : hI kb (e v) 0 kb (e v') = some (e v') := by unfold hI; rw [if_pos ⟨hs, h1⟩]; simp
  simp only [aB, eG, hx, hy, hid, List.getElem?_map, hv, Option.map_some, hd, List.map_set]
theorem bT {op : bd} {v v' : V} {σ' : az} {n' : Nat} (h : aB op (aC T) σ n = some (v, σ', n')) (hv : v = v') : aB op (aC T) σ n = some (v', σ', n') := hv ▸ h
theorem dS {xs : List α} {i : Int} {v : α} {kk : IntKind} {dv : D} (h : bv xs i = some v) (hx : aC T x = .d (.vec k (xs.map e))) (hy : aC T y = .d (.int kk i)) (hu : e v = dv) : aB (.iaddr k x y) (aC T) σ n = some (.d (.cptr k dv 0), σ, n) := by
  rw [← hu]; exact du h hx hy
theorem qe {xs : List α} {i : Int} {v : α} {id j : Nat} {m : Bool} {kb : Option Nat} {d dv : D} (h : bv xs i = some v) (hx : aC T x = .ptr id i.toNat j) (hid : σ id = some (.lst m kb (xs.map e))) (hu : e v = dv) (hd : dY kb dv j k = some d) : aB (.load k x) (aC T) σ n = some (.d d, σ, n) :=
  iQ h hx hid (hu ▸ hd)
theorem ug {xs xs' : List α} {i : Int} {v' : α} {id : Nat} {kb : Option Nat} {dv : D} (h' : cK xs i v' = some xs') (hx : aC T x = .ptr id i.toNat 0) (hy : aC T y = .d dv) (hid : σ id = some (.lst true kb (xs.map e))) (hu : e v' = dv) (hs : dv.shape kb = true) (h1 : dv.cells.all D.one = true) :
    aB (.store kb x y) (aC T) σ n = some (V.undef, ak σ id (some (.lst true kb (xs'.map e))), n) := by
  subst hu; exact qd h' hx hy hid hs h1
def gx (T : Nat → V) (d : Int) : Option AX → Int → Prop
  | none, i => i = d
  | some x, i => ∃ k, aC T x = .d (.int k i)
theorem qf {len : Nat} {lo hi : Option AX} {a b : Int} (hl : gx T 0 lo a) (hh : gx T len hi b) (h : 0 ≤ a ∧ a ≤ b ∧ b ≤ len) : d6 len (lo.map (aC T)) (hi.map (aC T)) = some (a.toNat, b.toNat) := by
  unfold d6
  cases lo with
  | none =>
    simp [gx] at hl; subst hl
    cases hi with
    | none => simp [gx] at hh; subst hh; simp
    | some y => obtain ⟨k, hk⟩ := hh; simp [hk, fJ, h]
  | some x =>
    obtain ⟨k, hk⟩ := hl
    cases hi with
    | none => simp [gx] at hh; subst hh; simp [hk, fJ, h]
    | some y => obtain ⟨k', hk'⟩ := hh; simp [hk, hk', fJ, h]
theorem ie {xs : List α} (hx : aC T x = .d (.vec k (xs.map e))) : ey σ k (aC T x) = some (xs.map e) := by
  rw [hx]; simp [ey, dZ, cg, dl]
theorem uh {xs : List α} {id len : Nat} {m : Bool} (hx : aC T x = .loc id 0 len) (hid : σ id = some (.lst m k (xs.map e))) (hl : len = xs.length) : ey σ k (aC T x) = some (xs.map e) := by
  subst hl; rw [hx]
  have : (xs.map e).take xs.length = xs.map e := List.take_of_length_le (by simp)
  simp [ey, dZ, cg, dl, hid, this]
theorem gP {xs ys zs : List α} {id len : Nat} {m m' : Bool} (h : dq xs ys = some zs) (hx : aC T x = .loc id 0 len) (hid : σ id = some (.lst m k (xs.map e))) (hl : len = xs.length) (hy : ey σ k (aC T y) = some (ys.map e)) :
    aB (.append k x y m') (aC T) σ n = some (.loc n 0 zs.length, ak (ak σ id none) n (some (.lst m k (zs.map e))), n + 1) := by
  obtain ⟨h1, rfl⟩ := qc h
  subst hl
  simp only [aB, dA, hy, hx, hid]
  simp [dH, h1]
theorem my {xs : List α} {z : α} {l c : Int} (h : fM l z = some xs) (hx : aC T x = .d (.int .i64 l)) (hy : aC T y = .d (.int .i64 c)) (hc : l ≤ c ∧ c ≤ 4294967296) :
    aB (.mkslF k (e z) x y) (aC T) σ n = some (.loc n 0 xs.length, ak σ n (some (.lst false k (xs.map e))), n + 1) := by
  unfold fM at h
  split at h
  · rename_i hh
    cases h
    simp only [aB, hx, hy, if_pos (show 0 ≤ l ∧ l ≤ c ∧ c ≤ 4294967296 from ⟨hh.1, hc.1, hc.2⟩)]
    simp
  · cases h
theorem ui {zero : List D} {xs : List α} {id off len : Nat} {k : Option Nat} (hx : aC T x = .loc id off len) (hid : σ id = some (.lst true k (xs.map e))) (hl : off + len = xs.length) :
    aB (.clear k zero x) (aC T) σ n = some (.d (.tup []), ak σ id (some (.lst true k ((xs.take off).map e))), n) := by
  simp only [aB, hx, hid, List.map_take]
  rw [if_pos ⟨trivial, by simpa using hl⟩]
theorem jK {xs ys : List α} {a b : Int} (h : cV xs a b = some ys) : (0 ≤ a ∧ a ≤ b ∧ b ≤ xs.length) ∧ ys = (xs.drop a.toNat).take (b.toNat - a.toNat) := by
  unfold cV at h
  split at h
  · rename_i hc; cases h; exact ⟨hc, rfl⟩
  · cases h
theorem kL {xs ys : List α} {lo hi : Option AX} {a b : Int} {id len : Nat} {m : Bool} (h : cV xs a b = some ys) (hx : aC T x = .loc id 0 len) (hid : σ id = some (.lst m k (xs.map e))) (hlen : len = xs.length) (hl : gx T 0 lo a) (hh : gx T xs.length hi b) :
    aB (.slc k x lo hi) (aC T) σ n = some (.loc id a.toNat (b.toNat - a.toNat), σ, n) := by
  obtain ⟨hc, _⟩ := jK h
  subst hlen
  have hb := qf (len := xs.length) (T := T) (lo := lo) (hi := hi) hl hh hc
  have hk : cg σ (.loc id 0 xs.length) = some k := by simp [cg, hid]
  simp only [aB, hx, hk, if_true, hb, Nat.zero_add]
theorem uj {xs zs : List α} {lo hi : Option AX} {a : Int} {id len : Nat} (h : cV xs a xs.length = some zs) (hx : aC T x = .loc id 0 len) (hid : σ id = some (.lst true k ((xs.take a.toNat).map e))) (hlen : len = xs.length) (hl : gx T 0 lo 0) (hh : gx T xs.length hi a) :
    aB (.slc k x lo hi) (aC T) σ n = some (.loc id 0 (xs.take a.toNat).length, σ, n) := by
  obtain ⟨hc, _⟩ := jK h
  subst hlen
  have hb := qf (len := xs.length) (T := T) (lo := lo) (hi := hi) hl hh (by omega : (0 : Int) ≤ 0 ∧ 0 ≤ a ∧ a ≤ xs.length)
  have hk : cg σ (.loc id 0 xs.length) = some k := by simp [cg, hid]
  simp only [aB, hx, hk, if_true, hb]
  have : (xs.take a.toNat).length = a.toNat := by rw [List.length_take]; omega
  rw [this]; simp
theorem uk {xs pre ys zs : List α} {b : Int} {id : Nat} {m' : Bool} (h0 : cV xs 0 b = some pre) (h : dq pre ys = some zs) (hx : aC T x = .loc id (0 : Int).toNat (b.toNat - (0 : Int).toNat)) (hid : σ id = some (.lst true k (xs.map e)))
    (hy : ∀ σ2 : az, (∀ q, q ≠ id → σ2 q = σ q) → ey σ2 k (aC T y) = some (ys.map e)) :
    aB (.appendC k x y m') (aC T) σ n = some (.loc n 0 zs.length, ak (ak σ id none) n (some (.lst true k (zs.map e))), n + 1) := by
  obtain ⟨hc, rfl⟩ := jK h0
  obtain ⟨h1, rfl⟩ := qc h
  have hx' : aC T x = .loc id 0 b.toNat := hx
  have hlen : b.toNat ≤ (xs.map e).length := by rw [List.length_map]; omega
  simp only [aB, hx', hid, if_pos hlen]
  have hs := hy (ak σ id (some (.lst true k ((xs.map e).take b.toNat)))) (fun q hq => aT _ _ hq)
  simp only [dA, hs, bk]
  have h1' : (xs.take b.toNat).length + ys.length ≤ dH := by simpa [dH] using h1
  rw [if_pos ⟨trivial, by simp; omega, by simpa [← List.map_take] using h1'⟩]
  have uu : ∀ b', ak (ak σ id b') id none = ak σ id none := fun b' => by funext q; simp only [ak]; split <;> rfl
  rw [uu]
  simp [← List.map_take]
theorem ul {xs ys : List α} {a b : Int} {id : Nat} {m : Bool} (h : cV xs a b = some ys) (hx : aC T x = .loc id a.toNat (b.toNat - a.toNat)) (hid : σ id = some (.lst m k (xs.map e))) : ey σ k (aC T x) = some (ys.map e) := by
  obtain ⟨hc, rfl⟩ := jK h
  simp only [ey, dZ, hx, cg, hid, if_true, dl]
  rw [if_pos (by simp; omega)]
  simp [List.map_take, List.map_drop]
theorem mz {xs : List α} {z : α} {l : Int} (h : fM l z = some xs) : l ≤ l ∧ l ≤ 4294967296 := by
  unfold fM at h
  split at h
  · rename_i hh; exact ⟨Int.le_refl _, hh.2⟩
  · cases h
theorem c8 {i : Int} (h : IntKind.i64.wrap (i + 1) = i + 1) (hx : aC T x = .d (.int .i64 i)) (hy : aC T y = .d (.int .i64 1)) : aB (.bin .add x y) (aC T) σ n = some (.d (.int .i64 (i + 1)), σ, n) := by
  simp [aB, jq, hx, hy, ke, h]
theorem c9 {i b : Int} (h0 : bO i) (h : i < b) (hb : IntKind.i64.wrap b = b) : IntKind.i64.wrap (i + 1) = i + 1 := by
  rw [lL] at hb ⊢
  simp [bO, IntKind.min, IntKind.max, IntKind.signed, IntKind.bits] at *
  omega
theorem aP {c : AX} {b : Bool} {v : V} (hc : aC T c = .d (.bool b)) (hb : b = true) (hx : aC T x = v) : aB (.pick c x y) (aC T) σ n = some (v, σ, n) := by
  subst hb; subst hx; simp [aB, hc]
theorem aO {c : AX} {b : Bool} {v : V} (hc : aC T c = .d (.bool b)) (hb : ¬ b = true) (hy : aC T y = v) : aB (.pick c x y) (aC T) σ n = some (v, σ, n) := by
  subst hy; simp at hb; subst hb; simp [aB, hc]
theorem gQ {k : Ck} {ks : List Ck} {a b : D} {l m : List D} {p q : Bool} (h : dz k a b = some p) (h' : b8 ks l m = some q) : b8 (k :: ks) (a :: l) (b :: m) = some (p && q) := by
  simp only [b8, h]
  cases p <;> simp [h']
theorem kM {neg : Bool} {ks : List Ck} {p q : List D} {b : Bool} (hx : aC T x = .d (.agg p)) (hy : aC T y = .d (.agg q)) (h : hJ ks (.d (.agg p)) (.d (.agg q)) = some b) : aB (.eqS neg ks x y) (aC T) σ n = some (.d (.bool (if neg then !b else b)), σ, n) := by
  simp [aB, hx, hy, h]
theorem mA {kb : Option Nat} {pre post : List D} {xs : List α} {i : Int} {v : α} {j : Nat} (h : bv xs i = some v) (hj : pre.length = j) (hk : kb ≠ none) : dY kb (.agg (pre ++ (xs.map e ++ post))) (j + i.toNat * 1) none = some (e v) := by
  obtain ⟨h0, h1⟩ := kJ h
  have hlt := (kK h).2
  subst hj
  have h2 : xs[i.toNat] = v := by rw [bZ hlt] at h1; exact ar h1
  simp [dY, cY, Ne.symm hk, List.getElem?_append, hlt, h2]
def D.sc : D → Bool
  | .int .. | .bool .. | .str .. => true
  | _ => false
def D.flat1 : D → Bool
  | .agg cs => cs.all D.sc
  | d => d.sc
def D.flat : D → Bool
  | .tup cs => cs.all D.flat1
  | d => d.flat1
theorem DRel.sc {O O' : Nat → Nat → Prop} {d : D} {v : Value} (h : DRel O w d v) (hd : d.sc = true) : DRel O' w' d v := by
  cases h <;> simp [D.sc] at hd
  case int k n hr => exact .int k n hr
  case bool b => exact .bool b
  case str s hr => exact .str s hr
theorem DRel.flat1 {O O' : Nat → Nat → Prop} {d : D} {v : Value} (h : DRel O w d v) (hd : d.flat1 = true) : DRel O' w' d v := by
  cases d with
  | agg ds =>
    cases h with
    | agg _ cs hl hr =>
      refine .agg ds cs hl fun i d v h1 h2 => (hr i d v h1 h2).sc ?_
      exact List.all_eq_true.1 hd d (dj h1)
  | _ => exact h.sc hd
theorem DRel.flat {O O' : Nat → Nat → Prop} {d : D} {v : Value} (h : DRel O w d v) (hd : d.flat = true) : DRel O' w' d v := by
  cases d with
  | tup ds =>
    cases h with
    | tup _ cs hl hr =>
      refine .tup ds cs hl fun i d v h1 h2 => (hr i d v h1 h2).flat1 ?_
      exact List.all_eq_true.1 hd d (dj h1)
  | _ => exact h.flat1 hd
inductive da (σ : az) : V → D → Prop
  | d (x : D) : da σ (.d x) x
  | sub {v : V} {x y : D} : da σ v x → cF x y → da σ v y
  | loc {id off len : Nat} {m : Bool} {k : Option Nat} {els : List D} : σ id = some (.lst m k els) → off + len ≤ els.length → da σ (.loc id off len) (.vec k ((els.drop off).take len))
  | var1 {id : Nat} {c : V} {x : D} : σ id = some (.var [c]) → da σ c x → x.shape none = true → da σ (.ptr id 0 0) (.cptr none x 0)
  | var {id j : Nat} {cs : List V} {ds : List D} : σ id = some (.var cs) → cs.length = ds.length → (∀ (i : Nat) c x, cs[i]? = some c → ds[i]? = some x → da σ c x) → da σ (.ptr id 0 j) (.cptr (some ds.length) (.agg ds) j)
  | elem {id i j : Nat} {m : Bool} {k : Option Nat} {els : List D} {x : D} : σ id = some (.lst m k els) → els[i]? = some x → da σ (.ptr id i j) (.cptr k x j)
  | agg {cs : List V} {ds : List D} : cs.length = ds.length → (∀ (i : Nat) c x, cs[i]? = some c → ds[i]? = some x → da σ c x) → da σ (.agg cs) (.agg ds)
  | func {f : Nat} {cs : List V} {ds : List D} : cs.length = ds.length → (∀ (i : Nat) c x, cs[i]? = some c → ds[i]? = some x → da σ c x) → da σ (.func f cs) (.func f ds)
theorem DRel.free {O : Nat → Nat → Prop} {d : D} {v : Value} (h : DRel O w d v) : DRel (fun _ _ => False) w d v := h.mono fun b o v h1 _ => ⟨h1, fun h => h⟩
theorem da.sound (hs : aI A μ σ w) {v : V} {d : D} (h : da σ v d) : ∀ {u : Value}, aD μ (au A μ σ) w v u → DRel (fun _ _ => False) w d u := by
  induction h with
  | d x => intro u h; cases h with | d _ _ h => exact h.free
  | sub _ hsub ih => intro u h; exact (ih h).sub hsub
  | loc hid hle =>
    rename_i id off len m k els
    intro u h
    have h2 := (iH (hs.frz hid) (v := .loc id off len) (d := .vec k ((els.drop off).take len)) (by simp [cD, bk, hle]) ((aM.frz (w := w) hid).keepV hs.alt h))
    exact h2.free
  | var1 hid _ hsh ih =>
    rename_i id c x _
    intro u h
    cases h with
    | ptr _ _ _ b k hp =>
      obtain ⟨b', cc, ty, fr, g1, g2, g3, g4, g5⟩ := hs.blks id _ hid
      rw [g1] at hp; cases hp
      have hlt : 0 < cc.size := by simp at g4; omega
      obtain ⟨q1, q2⟩ := g5 0 c cc[0] rfl (by simp [hlt])
      have hx := ih q2
      have hc0 : ∀ (i : Nat) y, x.cells[i]? = some y → i = 0 ∧ y = x := by
        intro i y hy
        cases x <;> simp [D.shape] at hsh <;> simp only [D.cells] at hy <;> cases i <;> simp at hy <;> exact ⟨rfl, hy.symm⟩
      have := DRel.cptr (own := fun _ _ => False) (w := w) none x 0 b 0 (fun i => cc[0]) hsh (fun i y hy => by
          obtain ⟨rfl, rfl⟩ := hc0 i y hy
          rw [dO g2]; simp [hlt]) (fun _ _ _ h => h) (fun i y hy => by obtain ⟨rfl, rfl⟩ := hc0 i y hy; exact hx) (fun _ _ _ => q1)
      simpa using this
  | var hid hl _ ih =>
    rename_i id j cs ds _
    intro u h
    cases h with
    | ptr _ _ _ b k hp =>
      obtain ⟨b', cc, ty, fr, g1, g2, g3, g4, g5⟩ := hs.blks id _ hid
      rw [g1] at hp; cases hp
      have key : ∀ (i : Nat) y, ds[i]? = some y → ∃ v, cc[i]? = some v ∧ v.oneCell' = true ∧ DRel (fun _ _ => False) w y v := by
        intro i y hy
        have hi : i < ds.length := (List.getElem?_eq_some_iff.1 hy).1
        have hc : cs[i]? = some (cs[i]'(by omega)) := by simp
        obtain ⟨q1, q2⟩ := g5 i _ (cc[i]'(by omega)) hc (by simp)
        exact ⟨_, by simp, q1, ih i _ y hc hy q2⟩
      have := DRel.cptr (own := fun _ _ => False) (w := w) (some ds.length) (.agg ds) j b 0 (fun i => cc.getD i Go.undef) (by simp [D.shape]) (fun i y hy => by
          obtain ⟨v, h1, _⟩ := key i y hy
          rw [dO g2]; simp [h1]) (fun _ _ _ h => h) (fun i y hy => by
          obtain ⟨v, h1, _, h3⟩ := key i y hy
          simpa [h1] using h3) (fun i y hy => by
          obtain ⟨v, h1, h2, _⟩ := key i y hy
          simpa [h1] using h2)
      simpa using this
  | elem hid hx =>
    rename_i id i j m k els x
    intro u h
    cases h with
    | ptr _ _ _ b kp hp =>
      rcases hs.blks id _ hid with ⟨g1, rfl⟩ | ⟨b', c, ty, fr, g1, g2, g3, g4, g5⟩
      · simp at hx
      · rw [g1] at hp; cases hp
        obtain ⟨q1, q2⟩ := g5 i x hx
        refine .cptr k x j b (i * ao k) (fun j => c.getD (i * ao k + j) Go.undef) q1 (fun jj y hy => ?_) (fun _ _ _ h => h) (fun jj y hy => ?_) (fun jj y hy => ?_)
        · obtain ⟨v, h1, _⟩ := q2 jj y hy
          rw [dO g2]; simp [h1]
        · obtain ⟨v, h1, _, h3⟩ := q2 jj y hy
          simpa [h1] using h3.free
        · obtain ⟨v, h1, h2, _⟩ := q2 jj y hy
          simpa [h1] using h2
  | agg hl _ ih =>
    rename_i cs ds _
    intro u h
    cases h with
    | agg _ us h1 h2 =>
      refine .agg ds us (by omega) fun i x v hx hv => ?_
      have hi : i < cs.length := by have := (List.getElem?_eq_some_iff.1 hx).1; omega
      exact ih i cs[i] x (by simp [hi]) hx (h2 i cs[i] v (by simp [hi]) hv)
  | func hl _ ih =>
    rename_i f cs ds _
    intro u h
    cases h with
    | func _ _ us h1 h2 =>
      refine .func f ds us (by omega) fun i x v hx hv => ?_
      have hi : i < cs.length := by have := (List.getElem?_eq_some_iff.1 hx).1; omega
      exact ih i cs[i] x (by simp [hi]) hx (h2 i cs[i] v (by simp [hi]) hv)
def eR (σ : az) : List V → List D → Prop
  | [], [] => True
  | v :: l, d :: r => da σ v d ∧ eR σ l r
  | _, _ => False
theorem eR.all : ∀ {l : List V} {r : List D}, eR σ l r → l.length = r.length ∧ ∀ (i : Nat) x y, l[i]? = some x → r[i]? = some y → da σ x y
  | [], [], _ => ⟨rfl, fun i x y h => by simp at h⟩
  | x :: l, y :: r, h => by
    obtain ⟨h1, h2⟩ := eR.all h.2
    refine ⟨by simp [h1], fun i u v hu hv => ?_⟩
    cases i with
    | zero => simp at hu hv; subst hu; subst hv; exact h.1
    | succ i => exact h2 i u v (by simpa using hu) (by simpa using hv)
  | [], _ :: _, h => h.elim
  | _ :: _, [], h => h.elim
end
end Go.AM
