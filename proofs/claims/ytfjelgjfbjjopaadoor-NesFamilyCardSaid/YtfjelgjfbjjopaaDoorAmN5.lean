import Derived.Test.YtfjelgjfbjjopaaDoorAmN4
set_option linter.unusedVariables false
set_option linter.unusedSectionVars false
set_option linter.unusedSimpArgs false
namespace Go.AM
open Go Go.RowKit
variable [Glob]
def eL {α : Type} (k : Option Nat) (e : α → D) (l : List α) : D := .vec k (l.map e)
def kI (P : Program) {α β : Type} (g : D) (ea : α → D) (er : β → D) (f : α → Option β) : Prop := ∃ fn caps, g = .func fn caps ∧ ∀ a r, f a = some r → PCall P fn ([ea a] ++ caps) (er r)
section
variable {P : Program} {N na : Nat} {A : Nat → Nat → Prop} {μ μ' : Nat → Option bF} {T T' : Nat → V} {σ σ' : aD} {w w' : World} {a : Act} {n n' : Nat} {l : List bJ} {dst : Option Nat} {op : bA} {K : S → Prop} {α : Type} {e : α → D} {x y lo hi : AX} {k : Option Nat}
theorem nB {l : List α} {i : Int} {v : α} (h : aN l i = some v) : 0 ≤ i ∧ l[i.toNat]? = some v := by
  unfold aN at h; split at h
  · exact ⟨by assumption, h⟩
  · cases h
theorem pT {l : List α} {i : Int} {v : α} (h : aN l i = some v) : 0 ≤ i ∧ i.toNat < l.length := by
  obtain ⟨h0, h1⟩ := nB h
  exact ⟨h0, (List.getElem?_eq_some_iff.1 h1).1⟩
theorem nC {l r : List α} {i : Int} {v : α} (h : dO l i v = some r) : 0 ≤ i ∧ i.toNat < l.length ∧ r = l.set i.toNat v := by
  unfold dO at h; split at h
  · split at h
    · cases h; exact ⟨by assumption, by assumption, rfl⟩
    · cases h
  · cases h
theorem nD {l r : List α} {i : Int} {v : α} (h : dO l i v = some r) : r.length = l.length := by rw [(nC h).2.2, List.length_set]
theorem zb {xs ys zs : List α} (h : cX xs ys = some zs) : xs.length + ys.length ≤ 4294967296 ∧ zs = xs ++ ys := by
  unfold cX at h; split at h
  · cases h; exact ⟨by assumption, rfl⟩
  · cases h
theorem ze {l : List α} {i : Nat} {v : α} (h : l[i]? = some v) : (l.map e)[i]? = some (e v) := by rw [List.getElem?_map, h]; rfl
theorem cQ {xs : List α} {i : Int} {v : α} {kk : IntKind} (h : aN xs i = some v) (hx : aG T x = .d (.vec k (xs.map e))) (hy : aG T y = .d (.int kk i)) : aF (.iaddr k x y) (aG T) σ n = some (.d (.cptr k (e v) 0), σ, n) := by
  obtain ⟨h0, h1⟩ := nB h
  simp [aF, hx, hy, h0, ze h1]
theorem fe {xs : List α} {i : Int} {v : α} {kk : IntKind} {id len : Nat} {m : Bool} (h : aN xs i = some v) (hx : aG T x = .loc id 0 len) (hid : σ id = some (.lst m k (xs.map e))) (hl : len = xs.length) (hy : aG T y = .d (.int kk i)) : aF (.iaddr k x y) (aG T) σ n = some (.ptr id i.toNat 0, σ, n) := by
  obtain ⟨h0, h1⟩ := pT h
  have hk : dA σ (.loc id 0 len) = some k := by simp [dA, hid]
  have h2 : i < (len : Int) := by omega
  simp [aF, hx, hy, h0, hk, h2]
theorem gi {xs : List α} {i : Int} {v : α} {id j : Nat} {m : Bool} {kb : Option Nat} {d : D} (h : aN xs i = some v) (hx : aG T x = .ptr id i.toNat j) (hid : σ id = some (.lst m kb (xs.map e))) (hd : fM kb (e v) j k = some d) : aF (.load k x) (aG T) σ n = some (.d d, σ, n) := by
  obtain ⟨h0, h1⟩ := nB h
  simp [aF, dh, hx, hid, h1, hd]
theorem nE {xs xs' : List α} {i : Int} {v' : α} {id : Nat} {kb : Option Nat} (h' : dO xs i v' = some xs') (hx : aG T x = .ptr id i.toNat 0) (hy : aG T y = .d (e v')) (hid : σ id = some (.lst true kb (xs.map e))) (hs : (e v').shape kb = true) (h1 : (e v').cells.all D.one = true) :
    aF (.store kb x y) (aG T) σ n = some (V.undef, aj σ id (some (.lst true kb (xs'.map e))), n) := by
  obtain ⟨h0, hlt, rfl⟩ := nC h'
  obtain ⟨v, hv⟩ : ∃ v, xs[i.toNat]? = some v := ⟨xs[i.toNat], by simp [hlt]⟩
  have hd : jD kb (e v) 0 kb (e v') = some (e v') := by unfold jD; rw [if_pos ⟨hs, h1⟩]; simp
  simp only [aF, gB, hx, hy, hid, List.getElem?_map, hv, Option.map_some, hd, List.map_set]
theorem lZ {xs : List α} {i : Int} {v : α} {kk : IntKind} {dv : D} (h : aN xs i = some v) (hx : aG T x = .d (.vec k (xs.map e))) (hy : aG T y = .d (.int kk i)) (hu : e v = dv) : aF (.iaddr k x y) (aG T) σ n = some (.d (.cptr k dv 0), σ, n) := by
  rw [← hu]; exact cQ h hx hy
def iM (T : Nat → V) (d : Int) : Option AX → Int → Prop
  | none, i => i = d
  | some x, i => ∃ k, aG T x = .d (.int k i)
theorem tT {len : Nat} {lo hi : Option AX} {a b : Int} (hl : iM T 0 lo a) (hh : iM T len hi b) (h : 0 ≤ a ∧ a ≤ b ∧ b ≤ len) : fw len (lo.map (aG T)) (hi.map (aG T)) = some (a.toNat, b.toNat) := by
  unfold fw
  cases lo with
  | none =>
    simp [iM] at hl; subst hl
    cases hi with
    | none => simp [iM] at hh; subst hh; simp
    | some y => obtain ⟨k, hk⟩ := hh; simp [hk, hJ, h]
  | some x =>
    obtain ⟨k, hk⟩ := hl
    cases hi with
    | none => simp [iM] at hh; subst hh; simp [hk, hJ, h]
    | some y => obtain ⟨k', hk'⟩ := hh; simp [hk, hk', hJ, h]
theorem zf {xs ys : List α} {lo hi : Option AX} {a b : Int} (h : fC xs a b = some ys) (hx : aG T x = .d (.vec k (xs.map e))) (hl : iM T 0 lo a) (hh : iM T xs.length hi b) : aF (.slc k x lo hi) (aG T) σ n = some (.d (.vec k (ys.map e)), σ, n) := by
  unfold fC at h
  split at h
  · rename_i hc
    cases h
    have hb := tT (len := (xs.map e).length) (T := T) (lo := lo) (hi := hi) (a := a) (b := b) hl (by simpa using hh) (by simpa using hc)
    simp only [aF, hx, if_true, hb, List.map_take, List.map_drop]
  · cases h
theorem fS {xs : List α} (hx : aG T x = .d (.vec k (xs.map e))) : gO σ k (aG T x) = some (xs.map e) := by
  rw [hx]; simp [gO, fv, dA, eF]
theorem tU {xs : List α} {id len : Nat} {m : Bool} (hx : aG T x = .loc id 0 len) (hid : σ id = some (.lst m k (xs.map e))) (hl : len = xs.length) : gO σ k (aG T x) = some (xs.map e) := by
  subst hl; rw [hx]
  have : (xs.map e).take xs.length = xs.map e := List.take_of_length_le (by simp)
  simp [gO, fv, dA, eF, hid, this]
theorem fo {xs ys zs : List α} {id len : Nat} {m m' : Bool} (h : cX xs ys = some zs) (hx : aG T x = .loc id 0 len) (hid : σ id = some (.lst m k (xs.map e))) (hl : len = xs.length) (hy : gO σ k (aG T y) = some (ys.map e)) :
    aF (.append k x y m') (aG T) σ n = some (.loc n 0 zs.length, aj (aj σ id none) n (some (.lst m k (zs.map e))), n + 1) := by
  obtain ⟨h1, rfl⟩ := zb h
  subst hl
  simp only [aF, e9, hy, hx, hid]
  simp [gN, h1]
theorem zg {xs : List α} {z : α} {l c : Int} (h : ic l z = some xs) (hx : aG T x = .d (.int .i64 l)) (hy : aG T y = .d (.int .i64 c)) (hc : l ≤ c ∧ c ≤ 4294967296) :
    aF (.mkslice k (e z) x y) (aG T) σ n = some (.loc n 0 xs.length, aj σ n (some (.lst true k (xs.map e))), n + 1) := by
  unfold ic at h
  split at h
  · rename_i hh
    cases h
    simp only [aF, hx, hy, if_pos (show 0 ≤ l ∧ l ≤ c ∧ c ≤ 4294967296 from ⟨hh.1, hc.1, hc.2⟩)]
    simp
  · cases h
theorem zh {xs ys : List α} {a b : Int} (h : fC xs a b = some ys) : (0 ≤ a ∧ a ≤ b ∧ b ≤ xs.length) ∧ ys = (xs.drop a.toNat).take (b.toNat - a.toNat) := by
  unfold fC at h
  split at h
  · rename_i hc; cases h; exact ⟨hc, rfl⟩
  · cases h
theorem zj {xs ys : List α} {lo hi : Option AX} {a b : Int} {id len : Nat} {m : Bool} (h : fC xs a b = some ys) (hx : aG T x = .loc id 0 len) (hid : σ id = some (.lst m k (xs.map e))) (hlen : len = xs.length) (hl : iM T 0 lo a) (hh : iM T xs.length hi b) :
    aF (.slc k x lo hi) (aG T) σ n = some (.loc id a.toNat (b.toNat - a.toNat), σ, n) := by
  obtain ⟨hc, _⟩ := zh h
  subst hlen
  have hb := tT (len := xs.length) (T := T) (lo := lo) (hi := hi) hl hh hc
  have hk : dA σ (.loc id 0 xs.length) = some k := by simp [dA, hid]
  simp only [aF, hx, hk, if_true, hb, Nat.zero_add]
theorem zk {xs : List α} {z : α} {l : Int} (h : ic l z = some xs) : l ≤ l ∧ l ≤ 4294967296 := by
  unfold ic at h
  split at h
  · rename_i hh; exact ⟨Int.le_refl _, hh.2⟩
  · cases h
theorem zl (l : List Int) : lG (l.map (D.int .u8)) = some (iL l) := by
  have : cu ((l.map (D.int .u8)).map hI) = some (l.map fun b => UInt8.ofNat b.toNat) := by
    induction l with
    | nil => rfl
    | cons b l ih =>
      show cu (hI (.int .u8 b) :: (l.map (D.int .u8)).map hI) = _
      simp only [hI, ko, ih, Option.map_some, List.map_cons]
  rw [lG, this]; rfl
theorem zm {xs : List Int} {id len : Nat} {m : Bool} (hx : aG T x = .loc id 0 len) (hid : σ id = some (.lst m none (xs.map (D.int .u8)))) (hl : len = xs.length) : aF (.b2s x) (aG T) σ n = some (.d (.str (iL xs)), σ, n) := by
  subst hl
  have : (xs.map (D.int .u8)).take xs.length = xs.map (D.int .u8) := List.take_of_length_le (by simp)
  simp [aF, hx, fv, dA, eF, hid, this, zl]
theorem zn {kk : IntKind} {p q r : Int} (h : kG kk p q = some r) (hx : aG T x = .d (.int kk p)) (hy : aG T y = .d (.int kk q)) : aF (.bin .quo x y) (aG T) σ n = some (.d (.int kk r), σ, n) := by
  unfold kG at h; split at h
  · cases h
  · rename_i h0; cases h; simp [aF, jE, hx, hy, lE, h0]
theorem tV {kk k2 : IntKind} {p q r : Int} (h : jR kk p q = some r) (hx : aG T x = .d (.int kk p)) (hy : aG T y = .d (.int k2 q)) : aF (.bin .shl x y) (aG T) σ n = some (.d (.int kk r), σ, n) := by
  unfold jR at h; split at h
  · cases h
  · rename_i h0; cases h; simp [aF, jE, hx, hy, o5, h0]
theorem c9 {i : Int} (h : IntKind.i64.wrap (i + 1) = i + 1) (hx : aG T x = .d (.int .i64 i)) (hy : aG T y = .d (.int .i64 1)) : aF (.bin .add x y) (aG T) σ n = some (.d (.int .i64 (i + 1)), σ, n) := by
  simp [aF, jE, hx, hy, lE, h]
theorem da {i b : Int} (h0 : bR i) (h : i < b) (hb : IntKind.i64.wrap b = b) : IntKind.i64.wrap (i + 1) = i + 1 := by
  rw [o1] at hb ⊢
  simp [bR, IntKind.min, IntKind.max, IntKind.signed, IntKind.bits] at *
  omega
theorem bG {c : AX} {b : Bool} {v : V} (hc : aG T c = .d (.bool b)) (hb : b = true) (hx : aG T x = v) : aF (.pick c x y) (aG T) σ n = some (v, σ, n) := by
  subst hb; subst hx; simp [aF, hc]
theorem bv {c : AX} {b : Bool} {v : V} (hc : aG T c = .d (.bool b)) (hb : ¬ b = true) (hy : aG T y = v) : aF (.pick c x y) (aG T) σ n = some (v, σ, n) := by
  subst hy; simp at hb; subst hb; simp [aF, hc]
theorem zo {kb : Option Nat} {pre post : List D} {xs : List α} {i : Int} {v : α} {j : Nat} (h : aN xs i = some v) (hj : pre.length = j) (hk : kb ≠ none) : fM kb (.agg (pre ++ (xs.map e ++ post))) (j + i.toNat * 1) none = some (e v) := by
  obtain ⟨h0, h1⟩ := nB h
  have hlt := (pT h).2
  subst hj
  have h2 : xs[i.toNat] = v := by rw [bw hlt] at h1; exact cd h1
  simp [fM, ep, Ne.symm hk, List.getElem?_append, hlt, h2]
def D.sc : D → Bool
  | .int .. | .bool .. | .str .. => true
  | _ => false
def D.flat1 : D → Bool
  | .agg cs => cs.all D.sc
  | d => d.sc
def D.flat : D → Bool
  | .tup cs => cs.all D.flat1
  | d => d.flat1
theorem DRel.sc {O O' : Nat → Nat → Prop} {d : D} {v : Value} (h : DRel O w d v) (hd : d.sc = true) : DRel O' w' d v := by
  cases h <;> simp [D.sc] at hd
  case int k n hr => exact .int k n hr
  case bool b => exact .bool b
  case str s hr => exact .str s hr
theorem DRel.flat1 {O O' : Nat → Nat → Prop} {d : D} {v : Value} (h : DRel O w d v) (hd : d.flat1 = true) : DRel O' w' d v := by
  cases d with
  | agg ds =>
    cases h with
    | agg _ cs hl hr =>
      refine .agg ds cs hl fun i d v h1 h2 => (hr i d v h1 h2).sc ?_
      exact List.all_eq_true.1 hd d (cn h1)
  | _ => exact h.sc hd
theorem DRel.flat {O O' : Nat → Nat → Prop} {d : D} {v : Value} (h : DRel O w d v) (hd : d.flat = true) : DRel O' w' d v := by
  cases d with
  | tup ds =>
    cases h with
    | tup _ cs hl hr =>
      refine .tup ds cs hl fun i d v h1 h2 => (hr i d v h1 h2).flat1 ?_
      exact List.all_eq_true.1 hd d (cn h1)
  | _ => exact h.flat1 hd
inductive d8 (σ : aD) : V → D → Prop
  | d (x : D) : d8 σ (.d x) x
  | sub {v : V} {x y : D} : d8 σ v x → dM x y → d8 σ v y
  | loc {id off len : Nat} {m : Bool} {k : Option Nat} {els : List D} : σ id = some (.lst m k els) → off + len ≤ els.length → d8 σ (.loc id off len) (.vec k ((els.drop off).take len))
  | var1 {id : Nat} {c : V} {x : D} : σ id = some (.var [c]) → d8 σ c x → x.shape none = true → d8 σ (.ptr id 0 0) (.cptr none x 0)
  | var {id j : Nat} {cs : List V} {ds : List D} : σ id = some (.var cs) → cs.length = ds.length → (∀ (i : Nat) c x, cs[i]? = some c → ds[i]? = some x → d8 σ c x) → d8 σ (.ptr id 0 j) (.cptr (some ds.length) (.agg ds) j)
  | elem {id i j : Nat} {m : Bool} {k : Option Nat} {els : List D} {x : D} : σ id = some (.lst m k els) → els[i]? = some x → d8 σ (.ptr id i j) (.cptr k x j)
  | agg {cs : List V} {ds : List D} : cs.length = ds.length → (∀ (i : Nat) c x, cs[i]? = some c → ds[i]? = some x → d8 σ c x) → d8 σ (.agg cs) (.agg ds)
  | func {f : Nat} {cs : List V} {ds : List D} : cs.length = ds.length → (∀ (i : Nat) c x, cs[i]? = some c → ds[i]? = some x → d8 σ c x) → d8 σ (.func f cs) (.func f ds)
theorem DRel.free {O : Nat → Nat → Prop} {d : D} {v : Value} (h : DRel O w d v) : DRel (fun _ _ => False) w d v := h.mono fun b o v h1 _ => ⟨h1, fun h => h⟩
theorem d8.sound (hs : aP A μ σ w) {v : V} {d : D} (h : d8 σ v d) : ∀ {u : Value}, aJ μ (ax A μ σ) w v u → DRel (fun _ _ => False) w d u := by
  induction h with
  | d x => intro u h; cases h with | d _ _ h => exact h.free
  | sub _ hsub ih => intro u h; exact (ih h).sub hsub
  | loc hid hle =>
    rename_i id off len m k els
    intro u h
    have h2 := (kA (hs.frz hid) (v := .loc id off len) (d := .vec k ((els.drop off).take len)) (by simp [dX, bC, hle]) ((aY.frz (w := w) hid).keepV hs.alt h))
    exact h2.free
  | var1 hid _ hsh ih =>
    rename_i id c x _
    intro u h
    cases h with
    | ptr _ _ _ b k hp =>
      obtain ⟨b', cc, ty, fr, g1, g2, g3, g4, g5⟩ := hs.blks id _ hid
      rw [g1] at hp; cases hp
      have hlt : 0 < cc.size := by simp at g4; omega
      obtain ⟨q1, q2⟩ := g5 0 c cc[0] rfl (by simp [hlt])
      have hx := ih q2
      have hc0 : ∀ (i : Nat) y, x.cells[i]? = some y → i = 0 ∧ y = x := by
        intro i y hy
        cases x <;> simp [D.shape] at hsh <;> simp only [D.cells] at hy <;> cases i <;> simp at hy <;> exact ⟨rfl, hy.symm⟩
      have := DRel.cptr (own := fun _ _ => False) (w := w) none x 0 b 0 (fun i => cc[0]) hsh (fun i y hy => by
          obtain ⟨rfl, rfl⟩ := hc0 i y hy
          rw [gf g2]; simp [hlt]) (fun _ _ _ h => h) (fun i y hy => by obtain ⟨rfl, rfl⟩ := hc0 i y hy; exact hx) (fun _ _ _ => q1)
      simpa using this
  | var hid hl _ ih =>
    rename_i id j cs ds _
    intro u h
    cases h with
    | ptr _ _ _ b k hp =>
      obtain ⟨b', cc, ty, fr, g1, g2, g3, g4, g5⟩ := hs.blks id _ hid
      rw [g1] at hp; cases hp
      have key : ∀ (i : Nat) y, ds[i]? = some y → ∃ v, cc[i]? = some v ∧ v.oneCell' = true ∧ DRel (fun _ _ => False) w y v := by
        intro i y hy
        have hi : i < ds.length := (List.getElem?_eq_some_iff.1 hy).1
        have hc : cs[i]? = some (cs[i]'(by omega)) := by simp
        obtain ⟨q1, q2⟩ := g5 i _ (cc[i]'(by omega)) hc (by simp)
        exact ⟨_, by simp, q1, ih i _ y hc hy q2⟩
      have := DRel.cptr (own := fun _ _ => False) (w := w) (some ds.length) (.agg ds) j b 0 (fun i => cc.getD i Go.undef) (by simp [D.shape]) (fun i y hy => by
          obtain ⟨v, h1, _⟩ := key i y hy
          rw [gf g2]; simp [h1]) (fun _ _ _ h => h) (fun i y hy => by
          obtain ⟨v, h1, _, h3⟩ := key i y hy
          simpa [h1] using h3) (fun i y hy => by
          obtain ⟨v, h1, h2, _⟩ := key i y hy
          simpa [h1] using h2)
      simpa using this
  | elem hid hx =>
    rename_i id i j m k els x
    intro u h
    cases h with
    | ptr _ _ _ b kp hp =>
      rcases hs.blks id _ hid with ⟨g1, rfl⟩ | ⟨b', c, ty, fr, g1, g2, g3, g4, g5⟩
      · simp at hx
      · rw [g1] at hp; cases hp
        obtain ⟨q1, q2⟩ := g5 i x hx
        refine .cptr k x j b (i * ao k) (fun j => c.getD (i * ao k + j) Go.undef) q1 (fun jj y hy => ?_) (fun _ _ _ h => h) (fun jj y hy => ?_) (fun jj y hy => ?_)
        · obtain ⟨v, h1, _⟩ := q2 jj y hy
          rw [gf g2]; simp [h1]
        · obtain ⟨v, h1, _, h3⟩ := q2 jj y hy
          simpa [h1] using h3.free
        · obtain ⟨v, h1, h2, _⟩ := q2 jj y hy
          simpa [h1] using h2
  | agg hl _ ih =>
    rename_i cs ds _
    intro u h
    cases h with
    | agg _ us h1 h2 =>
      refine .agg ds us (by omega) fun i x v hx hv => ?_
      have hi : i < cs.length := by have := (List.getElem?_eq_some_iff.1 hx).1; omega
      exact ih i cs[i] x (by simp [hi]) hx (h2 i cs[i] v (by simp [hi]) hv)
  | func hl _ ih =>
    rename_i f cs ds _
    intro u h
    cases h with
    | func _ _ us h1 h2 =>
      refine .func f ds us (by omega) fun i x v hx hv => ?_
      have hi : i < cs.length := by have := (List.getElem?_eq_some_iff.1 hx).1; omega
      exact ih i cs[i] x (by simp [hi]) hx (h2 i cs[i] v (by simp [hi]) hv)
def eA (σ : aD) : List V → List D → Prop
  | [], [] => True
  | v :: l, d :: r => d8 σ v d ∧ eA σ l r
  | _, _ => False
theorem eA.all : ∀ {l : List V} {r : List D}, eA σ l r → l.length = r.length ∧ ∀ (i : Nat) x y, l[i]? = some x → r[i]? = some y → d8 σ x y
  | [], [], _ => ⟨rfl, fun i x y h => by simp at h⟩
  | x :: l, y :: r, h => by
    obtain ⟨h1, h2⟩ := eA.all h.2
    refine ⟨by simp [h1], fun i u v hu hv => ?_⟩
    cases i with
    | zero => simp at hu hv; subst hu; subst hv; exact h.1
    | succ i => exact h2 i u v (by simpa using hu) (by simpa using hv)
  | [], _ :: _, h => h.elim
  | _ :: _, [], h => h.elim
theorem zp {f : Nat} {ds : List D} {r : D} (h : PCall P f ds r) (hr : r.flat = true) {vals : List V} (hv : eA σ vals ds) : eI P f vals σ n (.d r) σ n := by
  refine ⟨h.1, fun A μ w vs hs hfr hlen hrel => ?_⟩
  obtain ⟨hl, hall⟩ := hv.all
  refine (h.2 (fun _ _ => False) w vs (fun _ _ h => h.elim) (hs.glob.mono fun b o v h1 h2 => ⟨h1, fun h => h.elim⟩) (by omega) fun i d v hd hv => ?_).mono fun e w' ⟨cv, he, hcv, hb⟩ => ?_
  · have hi : i < vals.length := by have := (List.getElem?_eq_some_iff.1 hd).1; omega
    exact (hall i vals[i] d (by simp [hi]) hd).sound hs (hrel i vals[i] v (by simp [hi]) hv)
  · have hblk : ∀ b, b < w.heap.size → w'.heap[b]? = w.heap[b]? := hb.block
    have g : aY μ σ w μ σ w' := ⟨hb.os, hb.tape, hb.output, hb.size, fun b hlt _ => hblk b hlt, fun b c ty fr hc => ⟨c, by rw [hblk b (ey hc)]; exact hc, rfl, fun _ _ => rfl⟩, fun b o h => .inl h, fun b h => .inl h, fun _ _ h => h⟩
    refine ⟨cv, μ, he, .d _ _ (hcv.flat hr), ⟨fun id blk hid => cL.keep g hs.alt (fun b k hp => ?_) (hs.blks id blk hid), hs.inj, hs.amb, fun b o h => ?_, hs.glob.mono (g.keepCell hs.alt)⟩, g, fun id h => .inl h⟩
    · obtain ⟨_, hc⟩ := cL.block (hs.blks id blk hid) hp
      exact hblk b (ey hc)
    · have := hs.alt b o h; have := g.size; omega
end
end Go.AM
