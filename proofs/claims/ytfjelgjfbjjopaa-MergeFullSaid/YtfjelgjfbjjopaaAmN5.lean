import Derived.Test.YtfjelgjfbjjopaaAmN4
/-
  AM, part 30: data of typed values; operations on them.
-/
set_option linter.unusedVariables false
set_option linter.unusedSectionVars false
set_option linter.unusedSimpArgs false
namespace Go.AM
open Go Go.RowKit
variable [Glob]

/-! data -/

def eL {α : Type} (k : Option Nat) (e : α → D) (l : List α) : D := .vec k (l.map e)
def eA8 {α : Type} (e : α → D) (a : A8 α) : D := .agg ((e a.a0).cells ++ ((e a.a1).cells ++ ((e a.a2).cells ++ ((e a.a3).cells ++ ((e a.a4).cells ++ ((e a.a5).cells ++ ((e a.a6).cells ++ ((e a.a7).cells ++ []))))))))

/-- A function value that answers as a function told outright. -/
def Fn1 (P : Program) {α β : Type} (g : D) (ea : α → D) (er : β → D) (f : α → Option β) : Prop := ∃ fn caps, g = .func fn caps ∧ ∀ a r, f a = some r → PCall P fn ([ea a] ++ caps) (er r)
def Fn2 (P : Program) {α γ β : Type} (g : D) (ea : α → D) (eb : γ → D) (er : β → D) (f : α → γ → Option β) : Prop := ∃ fn caps, g = .func fn caps ∧ ∀ a b r, f a b = some r → PCall P fn ([ea a, eb b] ++ caps) (er r)

section
variable {P : Program} {N na : Nat} {A : Nat → Nat → Prop} {μ μ' : Nat → Option Place} {T T' : Nat → V} {σ σ' : Store} {w w' : World} {a : Act} {n n' : Nat} {l : List AInstr} {dst : Option Nat} {op : AOp} {K : S → Prop} {α : Type} {e : α → D} {x y lo hi : AX} {k : Option Nat}

theorem gat_spec {l : List α} {i : Int} {v : α} (h : gat l i = some v) : 0 ≤ i ∧ l[i.toNat]? = some v := by
  unfold gat at h; split at h
  · exact ⟨by assumption, h⟩
  · cases h

theorem gat_lt {l : List α} {i : Int} {v : α} (h : gat l i = some v) : 0 ≤ i ∧ i.toNat < l.length := by
  obtain ⟨h0, h1⟩ := gat_spec h
  exact ⟨h0, (List.getElem?_eq_some_iff.1 h1).1⟩

theorem gput_spec {l r : List α} {i : Int} {v : α} (h : gput l i v = some r) : 0 ≤ i ∧ i.toNat < l.length ∧ r = l.set i.toNat v := by
  unfold gput at h; split at h
  · split at h
    · cases h; exact ⟨by assumption, by assumption, rfl⟩
    · cases h
  · cases h

theorem gput_len {l r : List α} {i : Int} {v : α} (h : gput l i v = some r) : r.length = l.length := by rw [(gput_spec h).2.2, List.length_set]

theorem gapp_spec {xs ys zs : List α} (h : gapp xs ys = some zs) : xs.length + ys.length ≤ 4294967296 ∧ zs = xs ++ ys := by
  unfold gapp at h; split at h
  · cases h; exact ⟨by assumption, rfl⟩
  · cases h

theorem map_get {l : List α} {i : Nat} {v : α} (h : l[i]? = some v) : (l.map e)[i]? = some (e v) := by rw [List.getElem?_map, h]; rfl

/-! places -/

theorem st_iaddr {xs : List α} {i : Int} {v : α} {kk : IntKind} (h : gat xs i = some v) (hx : evT T x = .d (.vec k (xs.map e))) (hy : evT T y = .d (.int kk i)) : stepV (.iaddr k x y) (evT T) σ n = some (.d (.cptr k (e v) 0), σ, n) := by
  obtain ⟨h0, h1⟩ := gat_spec h
  simp [stepV, hx, hy, h0, map_get h1]

theorem st_iaddrL {xs : List α} {i : Int} {v : α} {kk : IntKind} {id len : Nat} {m : Bool} (h : gat xs i = some v) (hx : evT T x = .loc id 0 len) (hid : σ id = some (.lst m k (xs.map e))) (hl : len = xs.length) (hy : evT T y = .d (.int kk i)) : stepV (.iaddr k x y) (evT T) σ n = some (.ptr id i.toNat 0, σ, n) := by
  obtain ⟨h0, h1⟩ := gat_lt h
  have hk : kindOf σ (.loc id 0 len) = some k := by simp [kindOf, hid]
  have h2 : i < (len : Int) := by omega
  simp [stepV, hx, hy, h0, hk, h2]

theorem st_loadL {xs : List α} {i : Int} {v : α} {id j : Nat} {m : Bool} {kb : Option Nat} {d : D} (h : gat xs i = some v) (hx : evT T x = .ptr id i.toNat j) (hid : σ id = some (.lst m kb (xs.map e))) (hd : loadD kb (e v) j k = some d) : stepV (.load k x) (evT T) σ n = some (.d d, σ, n) := by
  obtain ⟨h0, h1⟩ := gat_spec h
  simp [stepV, loadAt, hx, hid, h1, hd]

theorem st_storeL {xs xs' : List α} {i : Int} {v v' : α} {id j : Nat} {kb : Option Nat} {u : D} (h : gat xs i = some v) (h' : gput xs i v' = some xs') (hx : evT T x = .ptr id i.toNat j) (hy : evT T y = .d u) (hid : σ id = some (.lst true kb (xs.map e))) (hd : storeD kb (e v) j k u = some (e v')) :
    stepV (.store k x y) (evT T) σ n = some (V.undef, upd σ id (some (.lst true kb (xs'.map e))), n) := by
  obtain ⟨h0, h1⟩ := gat_spec h
  obtain ⟨_, _, rfl⟩ := gput_spec h'
  simp [stepV, storeAt, hx, hy, hid, h1, hd, List.map_set]

theorem st_storeL' {xs xs' : List α} {i : Int} {v' : α} {id : Nat} {kb : Option Nat} (h' : gput xs i v' = some xs') (hx : evT T x = .ptr id i.toNat 0) (hy : evT T y = .d (e v')) (hid : σ id = some (.lst true kb (xs.map e))) (hs : (e v').shape kb = true) (h1 : (e v').cells.all D.one = true) :
    stepV (.store kb x y) (evT T) σ n = some (V.undef, upd σ id (some (.lst true kb (xs'.map e))), n) := by
  obtain ⟨h0, hlt, rfl⟩ := gput_spec h'
  obtain ⟨v, hv⟩ : ∃ v, xs[i.toNat]? = some v := ⟨xs[i.toNat], by simp [hlt]⟩
  have hd : storeD kb (e v) 0 kb (e v') = some (e v') := by unfold storeD; rw [if_pos ⟨hs, h1⟩]; simp
  simp only [stepV, storeAt, hx, hy, hid, List.getElem?_map, hv, Option.map_some, hd, List.map_set]

/-! where an element's datum is told in another way -/

theorem st_idxS {s : ByteArray} {i b : Int} {kk : IntKind} (h : bat s i = some b) (hx : evT T x = .d (.str s)) (hy : evT T y = .d (.int kk i)) : stepV (.idxS x y) (evT T) σ n = some (.d (.int .u8 b), σ, n) := by
  unfold bat at h
  split at h
  · rename_i h0
    cases hq : s.data.toList[i.toNat]? with
    | none => rw [hq] at h; cases h
    | some q => rw [hq] at h; cases h; simp only [stepV, hx, hy, if_pos h0, hq]
  · cases h

/-! slices -/

def bnd (T : Nat → V) (d : Int) : Option AX → Int → Prop
  | none, i => i = d
  | some x, i => ∃ k, evT T x = .d (.int k i)

theorem bnds {len : Nat} {lo hi : Option AX} {a b : Int} (hl : bnd T 0 lo a) (hh : bnd T len hi b) (h : 0 ≤ a ∧ a ≤ b ∧ b ≤ len) : sliceBnds len (lo.map (evT T)) (hi.map (evT T)) = some (a.toNat, b.toNat) := by
  unfold sliceBnds
  cases lo with
  | none =>
    simp [bnd] at hl; subst hl
    cases hi with
    | none => simp [bnd] at hh; subst hh; simp
    | some y => obtain ⟨k, hk⟩ := hh; simp [hk, intOfV, h]
  | some x =>
    obtain ⟨k, hk⟩ := hl
    cases hi with
    | none => simp [bnd] at hh; subst hh; simp [hk, intOfV, h]
    | some y => obtain ⟨k', hk'⟩ := hh; simp [hk, hk', intOfV, h]

theorem src_v {xs : List α} (hx : evT T x = .d (.vec k (xs.map e))) : srcOf σ k (evT T x) = some (xs.map e) := by
  rw [hx]; simp [srcOf, sliceSrc, kindOf, elemsOf]
theorem st_app {xs ys zs : List α} {id len : Nat} {m m' : Bool} (h : gapp xs ys = some zs) (hx : evT T x = .loc id 0 len) (hid : σ id = some (.lst m k (xs.map e))) (hl : len = xs.length) (hy : srcOf σ k (evT T y) = some (ys.map e)) :
    stepV (.append k x y m') (evT T) σ n = some (.loc n 0 zs.length, upd (upd σ id none) n (some (.lst m k (zs.map e))), n + 1) := by
  obtain ⟨h1, rfl⟩ := gapp_spec h
  subst hl
  simp only [stepV, appendV, hy, hx, hid]
  simp [lim, h1]

theorem st_mk {xs : List α} {z : α} {l c : Int} (h : gmk l z = some xs) (hx : evT T x = .d (.int .i64 l)) (hy : evT T y = .d (.int .i64 c)) (hc : l ≤ c ∧ c ≤ 4294967296) :
    stepV (.mkslice k (e z) x y) (evT T) σ n = some (.loc n 0 xs.length, upd σ n (some (.lst true k (xs.map e))), n + 1) := by
  unfold gmk at h
  split at h
  · rename_i hh
    cases h
    simp only [stepV, hx, hy, if_pos (show 0 ≤ l ∧ l ≤ c ∧ c ≤ 4294967296 from ⟨hh.1, hc.1, hc.2⟩)]
    simp
  · cases h

theorem st_clear {zero : List D} {xs : List α} {id off len : Nat} {k : Option Nat} (hx : evT T x = .loc id off len) (hid : σ id = some (.lst true k (xs.map e))) (hl : off + len = xs.length) :
    stepV (.clear k zero x) (evT T) σ n = some (.d (.tup []), upd σ id (some (.lst true k ((xs.take off).map e))), n) := by
  simp only [stepV, hx, hid, List.map_take]
  rw [if_pos ⟨trivial, by simpa using hl⟩]

theorem gcut_bnd {xs ys : List α} {a b : Int} (h : gcut xs a b = some ys) : (0 ≤ a ∧ a ≤ b ∧ b ≤ xs.length) ∧ ys = (xs.drop a.toNat).take (b.toNat - a.toNat) := by
  unfold gcut at h
  split at h
  · rename_i hc; cases h; exact ⟨hc, rfl⟩
  · cases h

/-- A part of a list of one's own. -/
theorem st_slcL {xs ys : List α} {lo hi : Option AX} {a b : Int} {id len : Nat} {m : Bool} (h : gcut xs a b = some ys) (hx : evT T x = .loc id 0 len) (hid : σ id = some (.lst m k (xs.map e))) (hlen : len = xs.length) (hl : bnd T 0 lo a) (hh : bnd T xs.length hi b) :
    stepV (.slc k x lo hi) (evT T) σ n = some (.loc id a.toNat (b.toNat - a.toNat), σ, n) := by
  obtain ⟨hc, _⟩ := gcut_bnd h
  subst hlen
  have hb := bnds (len := xs.length) (T := T) (lo := lo) (hi := hi) hl hh hc
  have hk : kindOf σ (.loc id 0 xs.length) = some k := by simp [kindOf, hid]
  simp only [stepV, hx, hk, if_true, hb, Nat.zero_add]

/-- What is left of a list of which the end was cleared. -/
theorem st_slcT {xs zs : List α} {lo hi : Option AX} {a : Int} {id len : Nat} (h : gcut xs a xs.length = some zs) (hx : evT T x = .loc id 0 len) (hid : σ id = some (.lst true k ((xs.take a.toNat).map e))) (hlen : len = xs.length) (hl : bnd T 0 lo 0) (hh : bnd T xs.length hi a) :
    stepV (.slc k x lo hi) (evT T) σ n = some (.loc id 0 (xs.take a.toNat).length, σ, n) := by
  obtain ⟨hc, _⟩ := gcut_bnd h
  subst hlen
  have hb := bnds (len := xs.length) (T := T) (lo := lo) (hi := hi) hl hh (by omega : (0 : Int) ≤ 0 ∧ 0 ≤ a ∧ a ≤ xs.length)
  have hk : kindOf σ (.loc id 0 xs.length) = some k := by simp [kindOf, hid]
  simp only [stepV, hx, hk, if_true, hb]
  have : (xs.take a.toNat).length = a.toNat := by rw [List.length_take]; omega
  rw [this]; simp

theorem gmk_le {xs : List α} {z : α} {l : Int} (h : gmk l z = some xs) : l ≤ l ∧ l ≤ 4294967296 := by
  unfold gmk at h
  split at h
  · rename_i hh; exact ⟨Int.le_refl _, hh.2⟩
  · cases h

/-! numbers -/

/-- The step of a counter. -/
theorem st_inc {i : Int} (h : IntKind.i64.wrap (i + 1) = i + 1) (hx : evT T x = .d (.int .i64 i)) (hy : evT T y = .d (.int .i64 1)) : stepV (.bin .add x y) (evT T) σ n = some (.d (.int .i64 (i + 1)), σ, n) := by
  simp [stepV, binV, hx, hy, binI, h]
theorem inc_ok {i b : Int} (h0 : Low i) (h : i < b) (hb : IntKind.i64.wrap b = b) : IntKind.i64.wrap (i + 1) = i + 1 := by
  rw [inR_iff] at hb ⊢
  simp [Low, IntKind.min, IntKind.max, IntKind.signed, IntKind.bits] at *
  omega
theorem low_of {i : Int} (h : IntKind.i64.wrap i = i) : Low i := by
  rw [inR_iff] at h
  simp [Low, IntKind.min, IntKind.max, IntKind.signed, IntKind.bits] at *
  omega

/-! choices -/

theorem st_pickT {c : AX} {b : Bool} {v : V} (hc : evT T c = .d (.bool b)) (hb : b = true) (hx : evT T x = v) : stepV (.pick c x y) (evT T) σ n = some (v, σ, n) := by
  subst hb; subst hx; simp [stepV, hc]
theorem st_pickF {c : AX} {b : Bool} {v : V} (hc : evT T c = .d (.bool b)) (hb : ¬ b = true) (hy : evT T y = v) : stepV (.pick c x y) (evT T) σ n = some (v, σ, n) := by
  subst hy; simp at hb; subst hb; simp [stepV, hc]

theorem eqT_cons {k : Ck} {ks : List Ck} {a b : D} {l m : List D} {p q : Bool} (h : eqK k a b = some p) (h' : eqT ks l m = some q) : eqT (k :: ks) (a :: l) (b :: m) = some (p && q) := by
  simp only [eqT, h]
  cases p <;> simp [h']

theorem st_eqS {neg : Bool} {ks : List Ck} {p q : List D} {b : Bool} (hx : evT T x = .d (.agg p)) (hy : evT T y = .d (.agg q)) (h : eqSV ks (.d (.agg p)) (.d (.agg q)) = some b) : stepV (.eqS neg ks x y) (evT T) σ n = some (.d (.bool (if neg then !b else b)), σ, n) := by
  simp [stepV, hx, hy, h]

/-! arrays -/

/-- An element of an array that lies in a struct's cells from j on. -/
theorem ld_arr {kb : Option Nat} {pre post : List D} {xs : List α} {i : Int} {v : α} {j : Nat} (h : gat xs i = some v) (hj : pre.length = j) (hk : kb ≠ none) : loadD kb (.agg (pre ++ (xs.map e ++ post))) (j + i.toNat * 1) none = some (e v) := by
  obtain ⟨h0, h1⟩ := gat_spec h
  have hlt := (gat_lt h).2
  subst hj
  have h2 : xs[i.toNat] = v := by rw [List.getElem?_eq_getElem hlt] at h1; exact Option.some.inj h1
  simp [loadD, subD, Ne.symm hk, List.getElem?_append, hlt, h2]

/-! calls that may look at what is the caller's own -/

def D.sc : D → Bool
  | .int .. | .bool .. | .str .. => true
  | _ => false

def D.flat1 : D → Bool
  | .agg cs => cs.all D.sc
  | d => d.sc

def D.flat : D → Bool
  | .tup cs => cs.all D.flat1
  | d => d.flat1

theorem DRel.sc {O O' : Nat → Nat → Prop} {d : D} {v : Value} (h : DRel O w d v) (hd : d.sc = true) : DRel O' w' d v := by
  cases h <;> simp [D.sc] at hd
  case int k n hr => exact .int k n hr
  case bool b => exact .bool b
  case str s hr => exact .str s hr

theorem DRel.flat1 {O O' : Nat → Nat → Prop} {d : D} {v : Value} (h : DRel O w d v) (hd : d.flat1 = true) : DRel O' w' d v := by
  cases d with
  | agg ds =>
    cases h with
    | agg _ cs hl hr =>
      refine .agg ds cs hl fun i d v h1 h2 => (hr i d v h1 h2).sc ?_
      exact List.all_eq_true.1 hd d (List.mem_of_getElem? h1)
  | _ => exact h.sc hd

theorem DRel.flat {O O' : Nat → Nat → Prop} {d : D} {v : Value} (h : DRel O w d v) (hd : d.flat = true) : DRel O' w' d v := by
  cases d with
  | tup ds =>
    cases h with
    | tup _ cs hl hr =>
      refine .tup ds cs hl fun i d v h1 h2 => (hr i d v h1 h2).flat1 ?_
      exact List.all_eq_true.1 hd d (List.mem_of_getElem? h1)
  | _ => exact h.flat1 hd

/-- What is seen of the caller's own. -/
inductive ViewB (σ : Store) : V → D → Prop
  | d (x : D) : ViewB σ (.d x) x
  | sub {v : V} {x y : D} : ViewB σ v x → Sub x y → ViewB σ v y
  | loc {id off len : Nat} {m : Bool} {k : Option Nat} {els : List D} : σ id = some (.lst m k els) → off + len ≤ els.length → ViewB σ (.loc id off len) (.vec k ((els.drop off).take len))
  | var1 {id : Nat} {c : V} {x : D} : σ id = some (.var [c]) → ViewB σ c x → x.shape none = true → ViewB σ (.ptr id 0 0) (.cptr none x 0)
  | var {id j : Nat} {cs : List V} {ds : List D} : σ id = some (.var cs) → cs.length = ds.length → (∀ (i : Nat) c x, cs[i]? = some c → ds[i]? = some x → ViewB σ c x) → ViewB σ (.ptr id 0 j) (.cptr (some ds.length) (.agg ds) j)
  | elem {id i j : Nat} {m : Bool} {k : Option Nat} {els : List D} {x : D} : σ id = some (.lst m k els) → els[i]? = some x → ViewB σ (.ptr id i j) (.cptr k x j)
  | agg {cs : List V} {ds : List D} : cs.length = ds.length → (∀ (i : Nat) c x, cs[i]? = some c → ds[i]? = some x → ViewB σ c x) → ViewB σ (.agg cs) (.agg ds)
  | func {f : Nat} {cs : List V} {ds : List D} : cs.length = ds.length → (∀ (i : Nat) c x, cs[i]? = some c → ds[i]? = some x → ViewB σ c x) → ViewB σ (.func f cs) (.func f ds)

theorem DRel.free {O : Nat → Nat → Prop} {d : D} {v : Value} (h : DRel O w d v) : DRel (fun _ _ => False) w d v := h.mono fun b o v h1 _ => ⟨h1, fun h => h⟩

theorem ViewB.sound (hs : StoreSim A μ σ w) {v : V} {d : D} (h : ViewB σ v d) : ∀ {u : Value}, VRel μ (full A μ σ) w v u → DRel (fun _ _ => False) w d u := by
  induction h with
  | d x => intro u h; cases h with | d _ _ h => exact h.free
  | sub _ hsub ih => intro u h; exact (ih h).sub hsub
  | loc hid hle =>
    rename_i id off len m k els
    intro u h
    have h2 := (viewC_sound (hs.frz hid) (v := .loc id off len) (d := .vec k ((els.drop off).take len)) (by simp [viewC, upd_same, hle]) ((Guar.frz (w := w) hid).keepV hs.alt h))
    exact h2.free
  | var1 hid _ hsh ih =>
    rename_i id c x _
    intro u h
    cases h with
    | ptr _ _ _ b k hp =>
      obtain ⟨b', cc, ty, fr, g1, g2, g3, g4, g5⟩ := hs.blks id _ hid
      rw [g1] at hp; cases hp
      have hlt : 0 < cc.size := by simp at g4; omega
      obtain ⟨q1, q2⟩ := g5 0 c cc[0] rfl (by simp [hlt])
      have hx := ih q2
      have hc0 : ∀ (i : Nat) y, x.cells[i]? = some y → i = 0 ∧ y = x := by
        intro i y hy
        cases x <;> simp [D.shape] at hsh <;> simp only [D.cells] at hy <;> cases i <;> simp at hy <;> exact ⟨rfl, hy.symm⟩
      have := DRel.cptr (own := fun _ _ => False) (w := w) none x 0 b 0 (fun i => cc[0]) hsh (fun i y hy => by
          obtain ⟨rfl, rfl⟩ := hc0 i y hy
          rw [cell?_of g2]; simp [hlt]) (fun _ _ _ h => h) (fun i y hy => by obtain ⟨rfl, rfl⟩ := hc0 i y hy; exact hx) (fun _ _ _ => q1)
      simpa using this
  | var hid hl _ ih =>
    rename_i id j cs ds _
    intro u h
    cases h with
    | ptr _ _ _ b k hp =>
      obtain ⟨b', cc, ty, fr, g1, g2, g3, g4, g5⟩ := hs.blks id _ hid
      rw [g1] at hp; cases hp
      have key : ∀ (i : Nat) y, ds[i]? = some y → ∃ v, cc[i]? = some v ∧ v.oneCell' = true ∧ DRel (fun _ _ => False) w y v := by
        intro i y hy
        have hi : i < ds.length := (List.getElem?_eq_some_iff.1 hy).1
        have hc : cs[i]? = some (cs[i]'(by omega)) := by simp
        obtain ⟨q1, q2⟩ := g5 i _ (cc[i]'(by omega)) hc (by simp)
        exact ⟨_, by simp, q1, ih i _ y hc hy q2⟩
      have := DRel.cptr (own := fun _ _ => False) (w := w) (some ds.length) (.agg ds) j b 0 (fun i => cc.getD i Go.undef) (by simp [D.shape]) (fun i y hy => by
          obtain ⟨v, h1, _⟩ := key i y hy
          rw [cell?_of g2]; simp [h1]) (fun _ _ _ h => h) (fun i y hy => by
          obtain ⟨v, h1, _, h3⟩ := key i y hy
          simpa [h1] using h3) (fun i y hy => by
          obtain ⟨v, h1, h2, _⟩ := key i y hy
          simpa [h1] using h2)
      simpa using this
  | elem hid hx =>
    rename_i id i j m k els x
    intro u h
    cases h with
    | ptr _ _ _ b kp hp =>
      rcases hs.blks id _ hid with ⟨g1, rfl⟩ | ⟨b', c, ty, fr, g1, g2, g3, g4, g5⟩
      · simp at hx
      · rw [g1] at hp; cases hp
        obtain ⟨q1, q2⟩ := g5 i x hx
        refine .cptr k x j b (i * stride k) (fun j => c.getD (i * stride k + j) Go.undef) q1 (fun jj y hy => ?_) (fun _ _ _ h => h) (fun jj y hy => ?_) (fun jj y hy => ?_)
        · obtain ⟨v, h1, _⟩ := q2 jj y hy
          rw [cell?_of g2]; simp [h1]
        · obtain ⟨v, h1, _, h3⟩ := q2 jj y hy
          simpa [h1] using h3.free
        · obtain ⟨v, h1, h2, _⟩ := q2 jj y hy
          simpa [h1] using h2
  | agg hl _ ih =>
    rename_i cs ds _
    intro u h
    cases h with
    | agg _ us h1 h2 =>
      refine .agg ds us (by omega) fun i x v hx hv => ?_
      have hi : i < cs.length := by have := (List.getElem?_eq_some_iff.1 hx).1; omega
      exact ih i cs[i] x (by simp [hi]) hx (h2 i cs[i] v (by simp [hi]) hv)
  | func hl _ ih =>
    rename_i f cs ds _
    intro u h
    cases h with
    | func _ _ us h1 h2 =>
      refine .func f ds us (by omega) fun i x v hx hv => ?_
      have hi : i < cs.length := by have := (List.getElem?_eq_some_iff.1 hx).1; omega
      exact ih i cs[i] x (by simp [hi]) hx (h2 i cs[i] v (by simp [hi]) hv)

def ViewsB (σ : Store) : List V → List D → Prop
  | [], [] => True
  | v :: l, d :: r => ViewB σ v d ∧ ViewsB σ l r
  | _, _ => False

theorem ViewsB.all : ∀ {l : List V} {r : List D}, ViewsB σ l r → l.length = r.length ∧ ∀ (i : Nat) x y, l[i]? = some x → r[i]? = some y → ViewB σ x y
  | [], [], _ => ⟨rfl, fun i x y h => by simp at h⟩
  | x :: l, y :: r, h => by
    obtain ⟨h1, h2⟩ := ViewsB.all h.2
    refine ⟨by simp [h1], fun i u v hu hv => ?_⟩
    cases i with
    | zero => simp at hu hv; subst hu; subst hv; exact h.1
    | succ i => exact h2 i u v (by simpa using hu) (by simpa using hv)
  | [], _ :: _, h => h.elim
  | _ :: _, [], h => h.elim

/-- A function that only reads may be shown what is the caller's own, if its answer holds on to nothing. -/
theorem PCall.borrow {f : Nat} {ds : List D} {r : D} (h : PCall P f ds r) (hr : r.flat = true) {vals : List V} (hv : ViewsB σ vals ds) : SCallR P f vals σ n (.d r) σ n := by
  refine ⟨h.1, fun A μ w vs hs hfr hlen hrel => ?_⟩
  obtain ⟨hl, hall⟩ := hv.all
  refine (h.2 (fun _ _ => False) w vs (fun _ _ h => h.elim) (hs.glob.mono fun b o v h1 h2 => ⟨h1, fun h => h.elim⟩) (by omega) fun i d v hd hv => ?_).mono fun e w' ⟨cv, he, hcv, hb⟩ => ?_
  · have hi : i < vals.length := by have := (List.getElem?_eq_some_iff.1 hd).1; omega
    exact (hall i vals[i] d (by simp [hi]) hd).sound hs (hrel i vals[i] v (by simp [hi]) hv)
  · have hblk : ∀ b, b < w.heap.size → w'.heap[b]? = w.heap[b]? := hb.block
    have g : Guar μ σ w μ σ w' := ⟨hb.os, hb.tape, hb.output, hb.size, fun b hlt _ => hblk b hlt, fun b c ty fr hc => ⟨c, by rw [hblk b (heap_lt hc)]; exact hc, rfl, fun _ _ => rfl⟩, fun b o h => .inl h, fun b h => .inl h, fun _ _ h => h⟩
    refine ⟨cv, μ, he, .d _ _ (hcv.flat hr), ⟨fun id blk hid => BRel.keep g hs.alt (fun b k hp => ?_) (hs.blks id blk hid), hs.inj, hs.amb, fun b o h => ?_, hs.glob.mono (g.keepCell hs.alt)⟩, g, fun id h => .inl h⟩
    · obtain ⟨_, hc⟩ := BRel.block (hs.blks id blk hid) hp
      exact hblk b (heap_lt hc)
    · have := hs.alt b o h; have := g.size; omega

end
end Go.AM
