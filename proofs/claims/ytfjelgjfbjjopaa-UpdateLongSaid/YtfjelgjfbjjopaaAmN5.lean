import Derived.Test.YtfjelgjfbjjopaaAmN4
set_option linter.unusedVariables false
set_option linter.unusedSectionVars false
set_option linter.unusedSimpArgs false
namespace Go.AM
open Go Go.RowKit
variable [Glob]
def eL {α : Type} (k : Option Nat) (e : α → D) (l : List α) : D := .vec k (l.map e)
def eP {α : Type} (k : Option Nat) (e : α → D) (x : α) : D := .cptr k (e x) 0
def qY (P : Program) {α β : Type} (g : D) (ea : α → D) (er : β → D) (f : α → Option β) : Prop := ∃ fn caps, g = .func fn caps ∧ ∀ a r, f a = some r → PCall P fn ([ea a] ++ caps) (er r)
def qZ (P : Program) {α γ β : Type} (g : D) (ea : α → D) (eb : γ → D) (er : β → D) (f : α → γ → Option β) : Prop := ∃ fn caps, g = .func fn caps ∧ ∀ a b r, f a b = some r → PCall P fn ([ea a, eb b] ++ caps) (er r)
section
variable {P : Program} {N na : Nat} {A : Nat → Nat → Prop} {μ μ' : Nat → Option aJ} {T T' : Nat → V} {σ σ' : au} {w w' : World} {a : Act} {n n' : Nat} {l : List aQ} {dst : Option Nat} {op : aM} {K : S → Prop} {α : Type} {e : α → D} {x y lo hi : AX} {k : Option Nat}
theorem jA {l : List α} {i : Int} {v : α} (h : aW l i = some v) : 0 ≤ i ∧ l[i.toNat]? = some v := by
  unfold aW at h; split at h
  · exact ⟨by assumption, h⟩
  · cases h
theorem nO {l : List α} {i : Int} {v : α} (h : aW l i = some v) : 0 ≤ i ∧ i.toNat < l.length := by
  obtain ⟨h0, h1⟩ := jA h
  exact ⟨h0, (List.getElem?_eq_some_iff.1 h1).1⟩
theorem iF {l r : List α} {i : Int} {v : α} (h : cB l i v = some r) : 0 ≤ i ∧ i.toNat < l.length ∧ r = l.set i.toNat v := by
  unfold cB at h; split at h
  · split at h
    · cases h; exact ⟨by assumption, by assumption, rfl⟩
    · cases h
  · cases h
theorem fX {l r : List α} {i : Int} {v : α} (h : cB l i v = some r) : r.length = l.length := by rw [(iF h).2.2, List.length_set]
theorem q6 {xs ys zs : List α} (h : cU xs ys = some zs) : xs.length + ys.length ≤ 4294967296 ∧ zs = xs ++ ys := by
  unfold cU at h; split at h
  · cases h; exact ⟨by assumption, rfl⟩
  · cases h
theorem q7 {l : List α} {i : Nat} {v : α} (h : l[i]? = some v) : (l.map e)[i]? = some (e v) := by rw [List.getElem?_map, h]; rfl
theorem bP {xs : List α} {i : Int} {v : α} {kk : IntKind} (h : aW xs i = some v) (hx : aD T x = .d (.vec k (xs.map e))) (hy : aD T y = .d (.int kk i)) : ay (.iaddr k x y) (aD T) σ n = some (.d (.cptr k (e v) 0), σ, n) := by
  obtain ⟨h0, h1⟩ := jA h
  simp [ay, hx, hy, h0, q7 h1]
theorem eT {xs : List α} {i : Int} {v : α} {kk : IntKind} {id len : Nat} {m : Bool} (h : aW xs i = some v) (hx : aD T x = .loc id 0 len) (hid : σ id = some (.lst m k (xs.map e))) (hl : len = xs.length) (hy : aD T y = .d (.int kk i)) : ay (.iaddr k x y) (aD T) σ n = some (.ptr id i.toNat 0, σ, n) := by
  obtain ⟨h0, h1⟩ := nO h
  have hk : bX σ (.loc id 0 len) = some k := by simp [bX, hid]
  have h2 : i < (len : Int) := by omega
  simp [ay, hx, hy, h0, hk, h2]
theorem k4 {xs : List α} {i : Int} {v : α} {id j : Nat} {m : Bool} {kb : Option Nat} {d : D} (h : aW xs i = some v) (hx : aD T x = .ptr id i.toNat j) (hid : σ id = some (.lst m kb (xs.map e))) (hd : eo kb (e v) j k = some d) : ay (.load k x) (aD T) σ n = some (.d d, σ, n) := by
  obtain ⟨h0, h1⟩ := jA h
  simp [ay, bU, hx, hid, h1, hd]
theorem q8 {xs xs' : List α} {i : Int} {v v' : α} {id j : Nat} {kb : Option Nat} {u : D} (h : aW xs i = some v) (h' : cB xs i v' = some xs') (hx : aD T x = .ptr id i.toNat j) (hy : aD T y = .d u) (hid : σ id = some (.lst true kb (xs.map e))) (hd : fk kb (e v) j k u = some (e v')) :
    ay (.store k x y) (aD T) σ n = some (V.undef, aj σ id (some (.lst true kb (xs'.map e))), n) := by
  obtain ⟨h0, h1⟩ := jA h
  obtain ⟨_, _, rfl⟩ := iF h'
  simp [ay, dM, hx, hy, hid, h1, hd, List.map_set]
theorem gP {xs xs' : List α} {i : Int} {v' : α} {id : Nat} {kb : Option Nat} (h' : cB xs i v' = some xs') (hx : aD T x = .ptr id i.toNat 0) (hy : aD T y = .d (e v')) (hid : σ id = some (.lst true kb (xs.map e))) (hs : (e v').shape kb = true) (h1 : (e v').cells.all D.one = true) :
    ay (.store kb x y) (aD T) σ n = some (V.undef, aj σ id (some (.lst true kb (xs'.map e))), n) := by
  obtain ⟨h0, hlt, rfl⟩ := iF h'
  obtain ⟨v, hv⟩ : ∃ v, xs[i.toNat]? = some v := ⟨xs[i.toNat], by simp [hlt]⟩
  have hd : fk kb (e v) 0 kb (e v') = some (e v') := by unfold fk; rw [if_pos ⟨hs, h1⟩]; simp
  simp only [ay, dM, hx, hy, hid, List.getElem?_map, hv, Option.map_some, hd, List.map_set]
def fY (T : Nat → V) (d : Int) : Option AX → Int → Prop
  | none, i => i = d
  | some x, i => ∃ k, aD T x = .d (.int k i)
theorem q9 {len : Nat} {lo hi : Option AX} {a b : Int} (hl : fY T 0 lo a) (hh : fY T len hi b) (h : 0 ≤ a ∧ a ≤ b ∧ b ≤ len) : dg len (lo.map (aD T)) (hi.map (aD T)) = some (a.toNat, b.toNat) := by
  unfold dg
  cases lo with
  | none =>
    simp [fY] at hl; subst hl
    cases hi with
    | none => simp [fY] at hh; subst hh; simp
    | some y => obtain ⟨k, hk⟩ := hh; simp [hk, eN, h]
  | some x =>
    obtain ⟨k, hk⟩ := hl
    cases hi with
    | none => simp [fY] at hh; subst hh; simp [hk, eN, h]
    | some y => obtain ⟨k', hk'⟩ := hh; simp [hk, hk', eN, h]
theorem fx {xs : List α} (hx : aD T x = .d (.vec k (xs.map e))) : dV σ k (aD T x) = some (xs.map e) := by
  rw [hx]; simp [dV, dO, bX, cW]
theorem fy {xs ys zs : List α} {id len : Nat} {m m' : Bool} (h : cU xs ys = some zs) (hx : aD T x = .loc id 0 len) (hid : σ id = some (.lst m k (xs.map e))) (hl : len = xs.length) (hy : dV σ k (aD T y) = some (ys.map e)) :
    ay (.append k x y m') (aD T) σ n = some (.loc n 0 zs.length, aj (aj σ id none) n (some (.lst m k (zs.map e))), n + 1) := by
  obtain ⟨h1, rfl⟩ := q6 h
  subst hl
  simp only [ay, cX, hy, hx, hid]
  simp [dN, h1]
theorem iG {xs : List α} {z : α} {l c : Int} (h : dL l z = some xs) (hx : aD T x = .d (.int .i64 l)) (hy : aD T y = .d (.int .i64 c)) (hc : l ≤ c ∧ c ≤ 4294967296) :
    ay (.mkslice k (e z) x y) (aD T) σ n = some (.loc n 0 xs.length, aj σ n (some (.lst true k (xs.map e))), n + 1) := by
  unfold dL at h
  split at h
  · rename_i hh
    cases h
    simp only [ay, hx, hy, if_pos (show 0 ≤ l ∧ l ≤ c ∧ c ≤ 4294967296 from ⟨hh.1, hc.1, hc.2⟩)]
    simp
  · cases h
theorem ra {xs ys : List α} {a b : Int} (h : gl xs a b = some ys) : (0 ≤ a ∧ a ≤ b ∧ b ≤ xs.length) ∧ ys = (xs.drop a.toNat).take (b.toNat - a.toNat) := by
  unfold gl at h
  split at h
  · rename_i hc; cases h; exact ⟨hc, rfl⟩
  · cases h
theorem rb {xs ys : List α} {lo hi : Option AX} {a b : Int} {id len : Nat} {m : Bool} (h : gl xs a b = some ys) (hx : aD T x = .loc id 0 len) (hid : σ id = some (.lst m k (xs.map e))) (hlen : len = xs.length) (hl : fY T 0 lo a) (hh : fY T xs.length hi b) :
    ay (.slc k x lo hi) (aD T) σ n = some (.loc id a.toNat (b.toNat - a.toNat), σ, n) := by
  obtain ⟨hc, _⟩ := ra h
  subst hlen
  have hb := q9 (len := xs.length) (T := T) (lo := lo) (hi := hi) hl hh hc
  have hk : bX σ (.loc id 0 xs.length) = some k := by simp [bX, hid]
  simp only [ay, hx, hk, if_true, hb, Nat.zero_add]
theorem gQ {xs : List α} {z : α} {l : Int} (h : dL l z = some xs) : l ≤ l ∧ l ≤ 4294967296 := by
  unfold dL at h
  split at h
  · rename_i hh; exact ⟨Int.le_refl _, hh.2⟩
  · cases h
theorem dR {i : Int} (h : IntKind.i64.wrap (i + 1) = i + 1) (hx : aD T x = .d (.int .i64 i)) (hy : aD T y = .d (.int .i64 1)) : ay (.bin .add x y) (aD T) σ n = some (.d (.int .i64 (i + 1)), σ, n) := by
  simp [ay, gq, hx, hy, ik, h]
theorem nP {i : Int} (h : IntKind.i64.wrap (i - 1) = i - 1) (hx : aD T x = .d (.int .i64 i)) (hy : aD T y = .d (.int .i64 1)) : ay (.bin .sub x y) (aD T) σ n = some (.d (.int .i64 (i - 1)), σ, n) := by
  simp [ay, gq, hx, hy, ik, h]
theorem dS {i b : Int} (h0 : b8 i) (h : i < b) (hb : IntKind.i64.wrap b = b) : IntKind.i64.wrap (i + 1) = i + 1 := by
  rw [hX] at hb ⊢
  simp [b8, IntKind.min, IntKind.max, IntKind.signed, IntKind.bits] at *
  omega
theorem jB {i b : Int} (h : b < i) (hb : IntKind.i64.wrap b = b) (hi : IntKind.i64.wrap i = i) : IntKind.i64.wrap (i - 1) = i - 1 := by
  rw [hX] at hb hi ⊢
  simp [IntKind.min, IntKind.max, IntKind.signed, IntKind.bits] at *
  omega
theorem rc {i : Int} (h : IntKind.i64.wrap i = i) : b8 i := by
  rw [hX] at h
  simp [b8, IntKind.min, IntKind.max, IntKind.signed, IntKind.bits] at *
  omega
theorem cS {c : AX} {b : Bool} {v : V} (hc : aD T c = .d (.bool b)) (hb : b = true) (hx : aD T x = v) : ay (.pick c x y) (aD T) σ n = some (v, σ, n) := by
  subst hb; subst hx; simp [ay, hc]
theorem ba {c : AX} {b : Bool} {v : V} (hc : aD T c = .d (.bool b)) (hb : ¬ b = true) (hy : aD T y = v) : ay (.pick c x y) (aD T) σ n = some (v, σ, n) := by
  subst hy; simp at hb; subst hb; simp [ay, hc]
theorem nQ {k : Ck} {ks : List Ck} {a b : D} {l m : List D} {p q : Bool} (h : cV k a b = some p) (h' : bH ks l m = some q) : bH (k :: ks) (a :: l) (b :: m) = some (p && q) := by
  simp only [bH, h]
  cases p <;> simp [h']
theorem nS {neg : Bool} {ks : List Ck} {p q : List D} {b : Bool} (hx : aD T x = .d (.agg p)) (hy : aD T y = .d (.agg q)) (h : fJ ks (.d (.agg p)) (.d (.agg q)) = some b) : ay (.eqS neg ks x y) (aD T) σ n = some (.d (.bool (if neg then !b else b)), σ, n) := by
  simp [ay, hx, hy, h]
def D.sc : D → Bool
  | .int .. | .bool .. | .str .. => true
  | _ => false
def D.flat1 : D → Bool
  | .agg cs => cs.all D.sc
  | d => d.sc
def D.flat : D → Bool
  | .tup cs => cs.all D.flat1
  | d => d.flat1
theorem DRel.sc {O O' : Nat → Nat → Prop} {d : D} {v : Value} (h : DRel O w d v) (hd : d.sc = true) : DRel O' w' d v := by
  cases h <;> simp [D.sc] at hd
  case int k n hr => exact .int k n hr
  case bool b => exact .bool b
  case str s hr => exact .str s hr
theorem DRel.flat1 {O O' : Nat → Nat → Prop} {d : D} {v : Value} (h : DRel O w d v) (hd : d.flat1 = true) : DRel O' w' d v := by
  cases d with
  | agg ds =>
    cases h with
    | agg _ cs hl hr =>
      refine .agg ds cs hl fun i d v h1 h2 => (hr i d v h1 h2).sc ?_
      exact List.all_eq_true.1 hd d (dx h1)
  | _ => exact h.sc hd
theorem DRel.flat {O O' : Nat → Nat → Prop} {d : D} {v : Value} (h : DRel O w d v) (hd : d.flat = true) : DRel O' w' d v := by
  cases d with
  | tup ds =>
    cases h with
    | tup _ cs hl hr =>
      refine .tup ds cs hl fun i d v h1 h2 => (hr i d v h1 h2).flat1 ?_
      exact List.all_eq_true.1 hd d (dx h1)
  | _ => exact h.flat1 hd
inductive cr (σ : au) : V → D → Prop
  | d (x : D) : cr σ (.d x) x
  | sub {v : V} {x y : D} : cr σ v x → cK x y → cr σ v y
  | loc {id off len : Nat} {m : Bool} {k : Option Nat} {els : List D} : σ id = some (.lst m k els) → off + len ≤ els.length → cr σ (.loc id off len) (.vec k ((els.drop off).take len))
  | var1 {id : Nat} {c : V} {x : D} : σ id = some (.var [c]) → cr σ c x → x.shape none = true → cr σ (.ptr id 0 0) (.cptr none x 0)
  | var {id j : Nat} {cs : List V} {ds : List D} : σ id = some (.var cs) → cs.length = ds.length → (∀ (i : Nat) c x, cs[i]? = some c → ds[i]? = some x → cr σ c x) → cr σ (.ptr id 0 j) (.cptr (some ds.length) (.agg ds) j)
  | elem {id i j : Nat} {m : Bool} {k : Option Nat} {els : List D} {x : D} : σ id = some (.lst m k els) → els[i]? = some x → cr σ (.ptr id i j) (.cptr k x j)
  | agg {cs : List V} {ds : List D} : cs.length = ds.length → (∀ (i : Nat) c x, cs[i]? = some c → ds[i]? = some x → cr σ c x) → cr σ (.agg cs) (.agg ds)
  | func {f : Nat} {cs : List V} {ds : List D} : cs.length = ds.length → (∀ (i : Nat) c x, cs[i]? = some c → ds[i]? = some x → cr σ c x) → cr σ (.func f cs) (.func f ds)
theorem DRel.free {O : Nat → Nat → Prop} {d : D} {v : Value} (h : DRel O w d v) : DRel (fun _ _ => False) w d v := h.mono fun b o v h1 _ => ⟨h1, fun h => h⟩
theorem cr.sound (hs : aB A μ σ w) {v : V} {d : D} (h : cr σ v d) : ∀ {u : Value}, aw μ (ak A μ σ) w v u → DRel (fun _ _ => False) w d u := by
  induction h with
  | d x => intro u h; cases h with | d _ _ h => exact h.free
  | sub _ hsub ih => intro u h; exact (ih h).sub hsub
  | loc hid hle =>
    rename_i id off len m k els
    intro u h
    have h2 := (fS (hs.frz hid) (v := .loc id off len) (d := .vec k ((els.drop off).take len)) (by simp [cJ, aL, hle]) ((aA.frz (w := w) hid).keepV hs.alt h))
    exact h2.free
  | var1 hid _ hsh ih =>
    rename_i id c x _
    intro u h
    cases h with
    | ptr _ _ _ b k hp =>
      obtain ⟨b', cc, ty, fr, g1, g2, g3, g4, g5⟩ := hs.blks id _ hid
      rw [g1] at hp; cases hp
      have hlt : 0 < cc.size := by simp at g4; omega
      obtain ⟨q1, q2⟩ := g5 0 c cc[0] rfl (by simp [hlt])
      have hx := ih q2
      have hc0 : ∀ (i : Nat) y, x.cells[i]? = some y → i = 0 ∧ y = x := by
        intro i y hy
        cases x <;> simp [D.shape] at hsh <;> simp only [D.cells] at hy <;> cases i <;> simp at hy <;> exact ⟨rfl, hy.symm⟩
      have := DRel.cptr (own := fun _ _ => False) (w := w) none x 0 b 0 (fun i => cc[0]) hsh (fun i y hy => by
          obtain ⟨rfl, rfl⟩ := hc0 i y hy
          rw [cD g2]; simp [hlt]) (fun _ _ _ h => h) (fun i y hy => by obtain ⟨rfl, rfl⟩ := hc0 i y hy; exact hx) (fun _ _ _ => q1)
      simpa using this
  | var hid hl _ ih =>
    rename_i id j cs ds _
    intro u h
    cases h with
    | ptr _ _ _ b k hp =>
      obtain ⟨b', cc, ty, fr, g1, g2, g3, g4, g5⟩ := hs.blks id _ hid
      rw [g1] at hp; cases hp
      have key : ∀ (i : Nat) y, ds[i]? = some y → ∃ v, cc[i]? = some v ∧ v.oneCell' = true ∧ DRel (fun _ _ => False) w y v := by
        intro i y hy
        have hi : i < ds.length := (List.getElem?_eq_some_iff.1 hy).1
        have hc : cs[i]? = some (cs[i]'(by omega)) := by simp
        obtain ⟨q1, q2⟩ := g5 i _ (cc[i]'(by omega)) hc (by simp)
        exact ⟨_, by simp, q1, ih i _ y hc hy q2⟩
      have := DRel.cptr (own := fun _ _ => False) (w := w) (some ds.length) (.agg ds) j b 0 (fun i => cc.getD i Go.undef) (by simp [D.shape]) (fun i y hy => by
          obtain ⟨v, h1, _⟩ := key i y hy
          rw [cD g2]; simp [h1]) (fun _ _ _ h => h) (fun i y hy => by
          obtain ⟨v, h1, _, h3⟩ := key i y hy
          simpa [h1] using h3) (fun i y hy => by
          obtain ⟨v, h1, h2, _⟩ := key i y hy
          simpa [h1] using h2)
      simpa using this
  | elem hid hx =>
    rename_i id i j m k els x
    intro u h
    cases h with
    | ptr _ _ _ b kp hp =>
      rcases hs.blks id _ hid with ⟨g1, rfl⟩ | ⟨b', c, ty, fr, g1, g2, g3, g4, g5⟩
      · simp at hx
      · rw [g1] at hp; cases hp
        obtain ⟨q1, q2⟩ := g5 i x hx
        refine .cptr k x j b (i * ah k) (fun j => c.getD (i * ah k + j) Go.undef) q1 (fun jj y hy => ?_) (fun _ _ _ h => h) (fun jj y hy => ?_) (fun jj y hy => ?_)
        · obtain ⟨v, h1, _⟩ := q2 jj y hy
          rw [cD g2]; simp [h1]
        · obtain ⟨v, h1, _, h3⟩ := q2 jj y hy
          simpa [h1] using h3.free
        · obtain ⟨v, h1, h2, _⟩ := q2 jj y hy
          simpa [h1] using h2
  | agg hl _ ih =>
    rename_i cs ds _
    intro u h
    cases h with
    | agg _ us h1 h2 =>
      refine .agg ds us (by omega) fun i x v hx hv => ?_
      have hi : i < cs.length := by have := (List.getElem?_eq_some_iff.1 hx).1; omega
      exact ih i cs[i] x (by simp [hi]) hx (h2 i cs[i] v (by simp [hi]) hv)
  | func hl _ ih =>
    rename_i f cs ds _
    intro u h
    cases h with
    | func _ _ us h1 h2 =>
      refine .func f ds us (by omega) fun i x v hx hv => ?_
      have hi : i < cs.length := by have := (List.getElem?_eq_some_iff.1 hx).1; omega
      exact ih i cs[i] x (by simp [hi]) hx (h2 i cs[i] v (by simp [hi]) hv)
def cw (σ : au) : List V → List D → Prop
  | [], [] => True
  | v :: l, d :: r => cr σ v d ∧ cw σ l r
  | _, _ => False
theorem cw.all : ∀ {l : List V} {r : List D}, cw σ l r → l.length = r.length ∧ ∀ (i : Nat) x y, l[i]? = some x → r[i]? = some y → cr σ x y
  | [], [], _ => ⟨rfl, fun i x y h => by simp at h⟩
  | x :: l, y :: r, h => by
    obtain ⟨h1, h2⟩ := cw.all h.2
    refine ⟨by simp [h1], fun i u v hu hv => ?_⟩
    cases i with
    | zero => simp at hu hv; subst hu; subst hv; exact h.1
    | succ i => exact h2 i u v (by simpa using hu) (by simpa using hv)
  | [], _ :: _, h => h.elim
  | _ :: _, [], h => h.elim
theorem rd {f : Nat} {ds : List D} {r : D} (h : PCall P f ds r) (hr : r.flat = true) {vals : List V} (hv : cw σ vals ds) : dE P f vals σ n (.d r) σ n := by
  refine ⟨h.1, fun A μ w vs hs hfr hlen hrel => ?_⟩
  obtain ⟨hl, hall⟩ := hv.all
  refine (h.2 (fun _ _ => False) w vs (fun _ _ h => h.elim) (hs.glob.mono fun b o v h1 h2 => ⟨h1, fun h => h.elim⟩) (by omega) fun i d v hd hv => ?_).mono fun e w' ⟨cv, he, hcv, hb⟩ => ?_
  · have hi : i < vals.length := by have := (List.getElem?_eq_some_iff.1 hd).1; omega
    exact (hall i vals[i] d (by simp [hi]) hd).sound hs (hrel i vals[i] v (by simp [hi]) hv)
  · have hblk : ∀ b, b < w.heap.size → w'.heap[b]? = w.heap[b]? := hb.block
    have g : aA μ σ w μ σ w' := ⟨hb.os, hb.tape, hb.output, hb.size, fun b hlt _ => hblk b hlt, fun b c ty fr hc => ⟨c, by rw [hblk b (b5 hc)]; exact hc, rfl, fun _ _ => rfl⟩, fun b o h => .inl h, fun b h => .inl h, fun _ _ h => h⟩
    refine ⟨cv, μ, he, .d _ _ (hcv.flat hr), ⟨fun id blk hid => bD.keep g hs.alt (fun b k hp => ?_) (hs.blks id blk hid), hs.inj, hs.amb, fun b o h => ?_, hs.glob.mono (g.keepCell hs.alt)⟩, g, fun id h => .inl h⟩
    · obtain ⟨_, hc⟩ := bD.block (hs.blks id blk hid) hp
      exact hblk b (b5 hc)
    · have := hs.alt b o h; have := g.size; omega
end
end Go.AM
