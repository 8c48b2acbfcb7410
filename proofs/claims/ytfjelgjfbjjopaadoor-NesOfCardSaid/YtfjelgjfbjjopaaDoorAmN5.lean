import Derived.Test.YtfjelgjfbjjopaaDoorAmN4
set_option linter.unusedVariables false
set_option linter.unusedSectionVars false
set_option linter.unusedSimpArgs false
namespace Go.AM
open Go Go.RowKit
variable [Glob]
def eL {α : Type} (k : Option Nat) (e : α → D) (l : List α) : D := .vec k (l.map e)
def lj (P : Program) {α β : Type} (g : D) (ea : α → D) (er : β → D) (f : α → Option β) : Prop := ∃ fn caps, g = .func fn caps ∧ ∀ a r, f a = some r → aN P fn ([ea a] ++ caps) (er r)
section
variable {P : Program} {N na : Nat} {A : Nat → Nat → Prop} {μ μ' : Nat → Option b5} {T T' : Nat → V} {σ σ' : aV} {w w' : World} {a : Act} {n n' : Nat} {l : List ce} {dst : Option Nat} {op : bU} {K : S → Prop} {α : Type} {e : α → D} {x y lo hi : AX} {k : Option Nat}
theorem oa {l : List α} {i : Int} {v : α} (h : bo l i = some v) : 0 ≤ i ∧ l[i.toNat]? = some v := by
  unfold bo at h; split at h
  · exact ⟨by assumption, h⟩
  · cases h
theorem qB {l : List α} {i : Int} {v : α} (h : bo l i = some v) : 0 ≤ i ∧ i.toNat < l.length := by
  obtain ⟨h0, h1⟩ := oa h
  exact ⟨h0, (List.getElem?_eq_some_iff.1 h1).1⟩
theorem ob {l r : List α} {i : Int} {v : α} (h : ef l i v = some r) : 0 ≤ i ∧ i.toNat < l.length ∧ r = l.set i.toNat v := by
  unfold ef at h; split at h
  · split at h
    · cases h; exact ⟨by assumption, by assumption, rfl⟩
    · cases h
  · cases h
theorem jz {l r : List α} {i : Int} {v : α} (h : ef l i v = some r) : r.length = l.length := by rw [(ob h).2.2, List.length_set]
theorem zM {xs ys zs : List α} (h : dD xs ys = some zs) : xs.length + ys.length ≤ 4294967296 ∧ zs = xs ++ ys := by
  unfold dD at h; split at h
  · cases h; exact ⟨by assumption, rfl⟩
  · cases h
theorem zN {l : List α} {i : Nat} {v : α} (h : l[i]? = some v) : (l.map e)[i]? = some (e v) := by rw [List.getElem?_map, h]; rfl
theorem bX {xs : List α} {i : Int} {v : α} {kk : IntKind} (h : bo xs i = some v) (hx : aW T x = .d (.vec k (xs.map e))) (hy : aW T y = .d (.int kk i)) : aX (.iaddr k x y) (aW T) σ n = some (.d (.cptr k (e v) 0), σ, n) := by
  obtain ⟨h0, h1⟩ := oa h
  simp [aX, hx, hy, h0, zN h1]
theorem dw {xs : List α} {i : Int} {v : α} {kk : IntKind} {id len : Nat} {m : Bool} (h : bo xs i = some v) (hx : aW T x = .loc id 0 len) (hid : σ id = some (.lst m k (xs.map e))) (hl : len = xs.length) (hy : aW T y = .d (.int kk i)) : aX (.iaddr k x y) (aW T) σ n = some (.ptr id i.toNat 0, σ, n) := by
  obtain ⟨h0, h1⟩ := qB h
  have hk : dK σ (.loc id 0 len) = some k := by simp [dK, hid]
  have h2 : i < (len : Int) := by omega
  simp [aX, hx, hy, h0, hk, h2]
theorem dU {xs : List α} {i : Int} {v : α} {id j : Nat} {m : Bool} {kb : Option Nat} {d : D} (h : bo xs i = some v) (hx : aW T x = .ptr id i.toNat j) (hid : σ id = some (.lst m kb (xs.map e))) (hd : fY kb (e v) j k = some d) : aX (.load k x) (aW T) σ n = some (.d d, σ, n) := by
  obtain ⟨h0, h1⟩ := oa h
  simp [aX, dE, hx, hid, h1, hd]
theorem jA {xs xs' : List α} {i : Int} {v' : α} {id : Nat} {kb : Option Nat} (h' : ef xs i v' = some xs') (hx : aW T x = .ptr id i.toNat 0) (hy : aW T y = .d (e v')) (hid : σ id = some (.lst true kb (xs.map e))) (hs : (e v').shape kb = true) (h1 : (e v').cells.all D.one = true) :
    aX (.store kb x y) (aW T) σ n = some (V.undef, aq σ id (some (.lst true kb (xs'.map e))), n) := by
  obtain ⟨h0, hlt, rfl⟩ := ob h'
  obtain ⟨v, hv⟩ : ∃ v, xs[i.toNat]? = some v := ⟨xs[i.toNat], by simp [hlt]⟩
  have hd : jV kb (e v) 0 kb (e v') = some (e v') := by unfold jV; rw [if_pos ⟨hs, h1⟩]; simp
  simp only [aX, gJ, hx, hy, hid, List.getElem?_map, hv, Option.map_some, hd, List.map_set]
theorem ic {xs : List α} {i : Int} {v : α} {kk : IntKind} {dv : D} (h : bo xs i = some v) (hx : aW T x = .d (.vec k (xs.map e))) (hy : aW T y = .d (.int kk i)) (hu : e v = dv) : aX (.iaddr k x y) (aW T) σ n = some (.d (.cptr k dv 0), σ, n) := by
  rw [← hu]; exact bX h hx hy
def kh (T : Nat → V) (d : Int) : Option AX → Int → Prop
  | none, i => i = d
  | some x, i => ∃ k, aW T x = .d (.int k i)
theorem zO {len : Nat} {lo hi : Option AX} {a b : Int} (hl : kh T 0 lo a) (hh : kh T len hi b) (h : 0 ≤ a ∧ a ≤ b ∧ b ≤ len) : fN len (lo.map (aW T)) (hi.map (aW T)) = some (a.toNat, b.toNat) := by
  unfold fN
  cases lo with
  | none =>
    simp [kh] at hl; subst hl
    cases hi with
    | none => simp [kh] at hh; subst hh; simp
    | some y => obtain ⟨k, hk⟩ := hh; simp [hk, iy, h]
  | some x =>
    obtain ⟨k, hk⟩ := hl
    cases hi with
    | none => simp [kh] at hh; subst hh; simp [hk, iy, h]
    | some y => obtain ⟨k', hk'⟩ := hh; simp [hk, hk', iy, h]
theorem ew {xs : List α} (hx : aW T x = .d (.vec k (xs.map e))) : hG σ k (aW T x) = some (xs.map e) := by
  rw [hx]; simp [hG, fM, dK, eY]
theorem qC {xs : List α} {id len : Nat} {m : Bool} (hx : aW T x = .loc id 0 len) (hid : σ id = some (.lst m k (xs.map e))) (hl : len = xs.length) : hG σ k (aW T x) = some (xs.map e) := by
  subst hl; rw [hx]
  have : (xs.map e).take xs.length = xs.map e := List.take_of_length_le (by simp)
  simp [hG, fM, dK, eY, hid, this]
theorem dV {xs ys zs : List α} {id len : Nat} {m m' : Bool} (h : dD xs ys = some zs) (hx : aW T x = .loc id 0 len) (hid : σ id = some (.lst m k (xs.map e))) (hl : len = xs.length) (hy : hG σ k (aW T y) = some (ys.map e)) :
    aX (.append k x y m') (aW T) σ n = some (.loc n 0 zs.length, aq (aq σ id none) n (some (.lst m k (zs.map e))), n + 1) := by
  obtain ⟨h1, rfl⟩ := zM h
  subst hl
  simp only [aX, fw, hy, hx, hid]
  simp [g9, h1]
theorem uo {xs : List α} {z : α} {l c : Int} (h : iE l z = some xs) (hx : aW T x = .d (.int .i64 l)) (hy : aW T y = .d (.int .i64 c)) (hc : l ≤ c ∧ c ≤ 4294967296) :
    aX (.mkslice k (e z) x y) (aW T) σ n = some (.loc n 0 xs.length, aq σ n (some (.lst true k (xs.map e))), n + 1) := by
  unfold iE at h
  split at h
  · rename_i hh
    cases h
    simp only [aX, hx, hy, if_pos (show 0 ≤ l ∧ l ≤ c ∧ c ≤ 4294967296 from ⟨hh.1, hc.1, hc.2⟩)]
    simp
  · cases h
theorem zP {xs ys : List α} {a b : Int} (h : iD xs a b = some ys) : (0 ≤ a ∧ a ≤ b ∧ b ≤ xs.length) ∧ ys = (xs.drop a.toNat).take (b.toNat - a.toNat) := by
  unfold iD at h
  split at h
  · rename_i hc; cases h; exact ⟨hc, rfl⟩
  · cases h
theorem zQ {xs ys : List α} {lo hi : Option AX} {a b : Int} {id len : Nat} {m : Bool} (h : iD xs a b = some ys) (hx : aW T x = .loc id 0 len) (hid : σ id = some (.lst m k (xs.map e))) (hlen : len = xs.length) (hl : kh T 0 lo a) (hh : kh T xs.length hi b) :
    aX (.slc k x lo hi) (aW T) σ n = some (.loc id a.toNat (b.toNat - a.toNat), σ, n) := by
  obtain ⟨hc, _⟩ := zP h
  subst hlen
  have hb := zO (len := xs.length) (T := T) (lo := lo) (hi := hi) hl hh hc
  have hk : dK σ (.loc id 0 xs.length) = some k := by simp [dK, hid]
  simp only [aX, hx, hk, if_true, hb, Nat.zero_add]
theorem ur {xs : List α} {z : α} {l : Int} (h : iE l z = some xs) : l ≤ l ∧ l ≤ 4294967296 := by
  unfold iE at h
  split at h
  · rename_i hh; exact ⟨Int.le_refl _, hh.2⟩
  · cases h
theorem zR (l : List Int) : mg (l.map (D.int .u8)) = some (i9 l) := by
  have : cR ((l.map (D.int .u8)).map iw) = some (l.map fun b => UInt8.ofNat b.toNat) := by
    induction l with
    | nil => rfl
    | cons b l ih =>
      show cR (iw (.int .u8 b) :: (l.map (D.int .u8)).map iw) = _
      simp only [iw, kR, ih, Option.map_some, List.map_cons]
  rw [mg, this]; rfl
theorem zS {xs : List Int} {id len : Nat} {m : Bool} (hx : aW T x = .loc id 0 len) (hid : σ id = some (.lst m none (xs.map (D.int .u8)))) (hl : len = xs.length) : aX (.b2s x) (aW T) σ n = some (.d (.str (i9 xs)), σ, n) := by
  subst hl
  have : (xs.map (D.int .u8)).take xs.length = xs.map (D.int .u8) := List.take_of_length_le (by simp)
  simp [aX, hx, fM, dK, eY, hid, this, zR]
theorem zT {kk : IntKind} {p q r : Int} (h : mA kk p q = some r) (hx : aW T x = .d (.int kk p)) (hy : aW T y = .d (.int kk q)) : aX (.bin .quo x y) (aW T) σ n = some (.d (.int kk r), σ, n) := by
  unfold mA at h; split at h
  · cases h
  · rename_i h0; cases h; simp [aX, jW, hx, hy, me, h0]
theorem ut {kk k2 : IntKind} {p q r : Int} (h : ke kk p q = some r) (hx : aW T x = .d (.int kk p)) (hy : aW T y = .d (.int k2 q)) : aX (.bin .shl x y) (aW T) σ n = some (.d (.int kk r), σ, n) := by
  unfold ke at h; split at h
  · cases h
  · rename_i h0; cases h; simp [aX, jW, hx, hy, pM, h0]
theorem cA {i : Int} (h : IntKind.i64.wrap (i + 1) = i + 1) (hx : aW T x = .d (.int .i64 i)) (hy : aW T y = .d (.int .i64 1)) : aX (.bin .add x y) (aW T) σ n = some (.d (.int .i64 (i + 1)), σ, n) := by
  simp [aX, jW, hx, hy, me, h]
theorem cB {i b : Int} (h0 : br i) (h : i < b) (hb : IntKind.i64.wrap b = b) : IntKind.i64.wrap (i + 1) = i + 1 := by
  rw [pL] at hb ⊢
  simp [br, IntKind.min, IntKind.max, IntKind.signed, IntKind.bits] at *
  omega
theorem bm {c : AX} {b : Bool} {v : V} (hc : aW T c = .d (.bool b)) (hb : b = true) (hx : aW T x = v) : aX (.pick c x y) (aW T) σ n = some (v, σ, n) := by
  subst hb; subst hx; simp [aX, hc]
theorem bn {c : AX} {b : Bool} {v : V} (hc : aW T c = .d (.bool b)) (hb : ¬ b = true) (hy : aW T y = v) : aX (.pick c x y) (aW T) σ n = some (v, σ, n) := by
  subst hy; simp at hb; subst hb; simp [aX, hc]
theorem uv {k : Ck} {ks : List Ck} {a b : D} {l m : List D} {p q : Bool} (h : dX k a b = some p) (h' : dc ks l m = some q) : dc (k :: ks) (a :: l) (b :: m) = some (p && q) := by
  simp only [dc, h]
  cases p <;> simp [h']
theorem uw {neg : Bool} {ks : List Ck} {p q : List D} {b : Bool} (hx : aW T x = .d (.agg p)) (hy : aW T y = .d (.agg q)) (h : jX ks (.d (.agg p)) (.d (.agg q)) = some b) : aX (.eqS neg ks x y) (aW T) σ n = some (.d (.bool (if neg then !b else b)), σ, n) := by
  simp [aX, hx, hy, h]
theorem zU {kb : Option Nat} {pre post : List D} {xs : List α} {i : Int} {v : α} {j : Nat} (h : bo xs i = some v) (hj : pre.length = j) (hk : kb ≠ none) : fY kb (.agg (pre ++ (xs.map e ++ post))) (j + i.toNat * 1) none = some (e v) := by
  obtain ⟨h0, h1⟩ := oa h
  have hlt := (qB h).2
  subst hj
  have h2 : xs[i.toNat] = v := by rw [bW hlt] at h1; exact ca h1
  simp [fY, eI, Ne.symm hk, List.getElem?_append, hlt, h2]
def D.sc : D → Bool
  | .int .. | .bool .. | .str .. => true
  | _ => false
def D.flat1 : D → Bool
  | .agg cs => cs.all D.sc
  | d => d.sc
def D.flat : D → Bool
  | .tup cs => cs.all D.flat1
  | d => d.flat1
theorem DRel.sc {O O' : Nat → Nat → Prop} {d : D} {v : Value} (h : DRel O w d v) (hd : d.sc = true) : DRel O' w' d v := by
  cases h <;> simp [D.sc] at hd
  case int k n hr => exact .int k n hr
  case bool b => exact .bool b
  case str s hr => exact .str s hr
theorem DRel.flat1 {O O' : Nat → Nat → Prop} {d : D} {v : Value} (h : DRel O w d v) (hd : d.flat1 = true) : DRel O' w' d v := by
  cases d with
  | agg ds =>
    cases h with
    | agg _ cs hl hr =>
      refine .agg ds cs hl fun i d v h1 h2 => (hr i d v h1 h2).sc ?_
      exact List.all_eq_true.1 hd d (cT h1)
  | _ => exact h.sc hd
theorem DRel.flat {O O' : Nat → Nat → Prop} {d : D} {v : Value} (h : DRel O w d v) (hd : d.flat = true) : DRel O' w' d v := by
  cases d with
  | tup ds =>
    cases h with
    | tup _ cs hl hr =>
      refine .tup ds cs hl fun i d v h1 h2 => (hr i d v h1 h2).flat1 ?_
      exact List.all_eq_true.1 hd d (cT h1)
  | _ => exact h.flat1 hd
inductive eF (σ : aV) : V → D → Prop
  | d (x : D) : eF σ (.d x) x
  | sub {v : V} {x y : D} : eF σ v x → dP x y → eF σ v y
  | loc {id off len : Nat} {m : Bool} {k : Option Nat} {els : List D} : σ id = some (.lst m k els) → off + len ≤ els.length → eF σ (.loc id off len) (.vec k ((els.drop off).take len))
  | var1 {id : Nat} {c : V} {x : D} : σ id = some (.var [c]) → eF σ c x → x.shape none = true → eF σ (.ptr id 0 0) (.cptr none x 0)
  | var {id j : Nat} {cs : List V} {ds : List D} : σ id = some (.var cs) → cs.length = ds.length → (∀ (i : Nat) c x, cs[i]? = some c → ds[i]? = some x → eF σ c x) → eF σ (.ptr id 0 j) (.cptr (some ds.length) (.agg ds) j)
  | elem {id i j : Nat} {m : Bool} {k : Option Nat} {els : List D} {x : D} : σ id = some (.lst m k els) → els[i]? = some x → eF σ (.ptr id i j) (.cptr k x j)
  | agg {cs : List V} {ds : List D} : cs.length = ds.length → (∀ (i : Nat) c x, cs[i]? = some c → ds[i]? = some x → eF σ c x) → eF σ (.agg cs) (.agg ds)
  | func {f : Nat} {cs : List V} {ds : List D} : cs.length = ds.length → (∀ (i : Nat) c x, cs[i]? = some c → ds[i]? = some x → eF σ c x) → eF σ (.func f cs) (.func f ds)
theorem DRel.free {O : Nat → Nat → Prop} {d : D} {v : Value} (h : DRel O w d v) : DRel (fun _ _ => False) w d v := h.mono fun b o v h1 _ => ⟨h1, fun h => h⟩
theorem eF.sound (hs : bA A μ σ w) {v : V} {d : D} (h : eF σ v d) : ∀ {u : Value}, be μ (aF A μ σ) w v u → DRel (fun _ _ => False) w d u := by
  induction h with
  | d x => intro u h; cases h with | d _ _ h => exact h.free
  | sub _ hsub ih => intro u h; exact (ih h).sub hsub
  | loc hid hle =>
    rename_i id off len m k els
    intro u h
    have h2 := (k8 (hs.frz hid) (v := .loc id off len) (d := .vec k ((els.drop off).take len)) (by simp [eC, bY, hle]) ((bE.frz (w := w) hid).keepV hs.alt h))
    exact h2.free
  | var1 hid _ hsh ih =>
    rename_i id c x _
    intro u h
    cases h with
    | ptr _ _ _ b k hp =>
      obtain ⟨b', cc, ty, fr, g1, g2, g3, g4, g5⟩ := hs.blks id _ hid
      rw [g1] at hp; cases hp
      have hlt : 0 < cc.size := by simp at g4; omega
      obtain ⟨q1, q2⟩ := g5 0 c cc[0] rfl (by simp [hlt])
      have hx := ih q2
      have hc0 : ∀ (i : Nat) y, x.cells[i]? = some y → i = 0 ∧ y = x := by
        intro i y hy
        cases x <;> simp [D.shape] at hsh <;> simp only [D.cells] at hy <;> cases i <;> simp at hy <;> exact ⟨rfl, hy.symm⟩
      have := DRel.cptr (own := fun _ _ => False) (w := w) none x 0 b 0 (fun i => cc[0]) hsh (fun i y hy => by
          obtain ⟨rfl, rfl⟩ := hc0 i y hy
          rw [gw g2]; simp [hlt]) (fun _ _ _ h => h) (fun i y hy => by obtain ⟨rfl, rfl⟩ := hc0 i y hy; exact hx) (fun _ _ _ => q1)
      simpa using this
  | var hid hl _ ih =>
    rename_i id j cs ds _
    intro u h
    cases h with
    | ptr _ _ _ b k hp =>
      obtain ⟨b', cc, ty, fr, g1, g2, g3, g4, g5⟩ := hs.blks id _ hid
      rw [g1] at hp; cases hp
      have key : ∀ (i : Nat) y, ds[i]? = some y → ∃ v, cc[i]? = some v ∧ v.oneCell' = true ∧ DRel (fun _ _ => False) w y v := by
        intro i y hy
        have hi : i < ds.length := (List.getElem?_eq_some_iff.1 hy).1
        have hc : cs[i]? = some (cs[i]'(by omega)) := by simp
        obtain ⟨q1, q2⟩ := g5 i _ (cc[i]'(by omega)) hc (by simp)
        exact ⟨_, by simp, q1, ih i _ y hc hy q2⟩
      have := DRel.cptr (own := fun _ _ => False) (w := w) (some ds.length) (.agg ds) j b 0 (fun i => cc.getD i Go.undef) (by simp [D.shape]) (fun i y hy => by
          obtain ⟨v, h1, _⟩ := key i y hy
          rw [gw g2]; simp [h1]) (fun _ _ _ h => h) (fun i y hy => by
          obtain ⟨v, h1, _, h3⟩ := key i y hy
          simpa [h1] using h3) (fun i y hy => by
          obtain ⟨v, h1, h2, _⟩ := key i y hy
          simpa [h1] using h2)
      simpa using this
  | elem hid hx =>
    rename_i id i j m k els x
    intro u h
    cases h with
    | ptr _ _ _ b kp hp =>
      rcases hs.blks id _ hid with ⟨g1, rfl⟩ | ⟨b', c, ty, fr, g1, g2, g3, g4, g5⟩
      · simp at hx
      · rw [g1] at hp; cases hp
        obtain ⟨q1, q2⟩ := g5 i x hx
        refine .cptr k x j b (i * ax k) (fun j => c.getD (i * ax k + j) Go.undef) q1 (fun jj y hy => ?_) (fun _ _ _ h => h) (fun jj y hy => ?_) (fun jj y hy => ?_)
        · obtain ⟨v, h1, _⟩ := q2 jj y hy
          rw [gw g2]; simp [h1]
        · obtain ⟨v, h1, _, h3⟩ := q2 jj y hy
          simpa [h1] using h3.free
        · obtain ⟨v, h1, h2, _⟩ := q2 jj y hy
          simpa [h1] using h2
  | agg hl _ ih =>
    rename_i cs ds _
    intro u h
    cases h with
    | agg _ us h1 h2 =>
      refine .agg ds us (by omega) fun i x v hx hv => ?_
      have hi : i < cs.length := by have := (List.getElem?_eq_some_iff.1 hx).1; omega
      exact ih i cs[i] x (by simp [hi]) hx (h2 i cs[i] v (by simp [hi]) hv)
  | func hl _ ih =>
    rename_i f cs ds _
    intro u h
    cases h with
    | func _ _ us h1 h2 =>
      refine .func f ds us (by omega) fun i x v hx hv => ?_
      have hi : i < cs.length := by have := (List.getElem?_eq_some_iff.1 hx).1; omega
      exact ih i cs[i] x (by simp [hi]) hx (h2 i cs[i] v (by simp [hi]) hv)
def eO (σ : aV) : List V → List D → Prop
  | [], [] => True
  | v :: l, d :: r => eF σ v d ∧ eO σ l r
  | _, _ => False
theorem eO.all : ∀ {l : List V} {r : List D}, eO σ l r → l.length = r.length ∧ ∀ (i : Nat) x y, l[i]? = some x → r[i]? = some y → eF σ x y
  | [], [], _ => ⟨rfl, fun i x y h => by simp at h⟩
  | x :: l, y :: r, h => by
    obtain ⟨h1, h2⟩ := eO.all h.2
    refine ⟨by simp [h1], fun i u v hu hv => ?_⟩
    cases i with
    | zero => simp at hu hv; subst hu; subst hv; exact h.1
    | succ i => exact h2 i u v (by simpa using hu) (by simpa using hv)
  | [], _ :: _, h => h.elim
  | _ :: _, [], h => h.elim
theorem zV {f : Nat} {ds : List D} {r : D} (h : aN P f ds r) (hr : r.flat = true) {vals : List V} (hv : eO σ vals ds) : e8 P f vals σ n (.d r) σ n := by
  refine ⟨h.1, fun A μ w vs hs hfr hlen hrel => ?_⟩
  obtain ⟨hl, hall⟩ := hv.all
  refine (h.2 (fun _ _ => False) w vs (fun _ _ h => h.elim) (hs.glob.mono fun b o v h1 h2 => ⟨h1, fun h => h.elim⟩) (by omega) fun i d v hd hv => ?_).mono fun e w' ⟨cv, he, hcv, hb⟩ => ?_
  · have hi : i < vals.length := by have := (List.getElem?_eq_some_iff.1 hd).1; omega
    exact (hall i vals[i] d (by simp [hi]) hd).sound hs (hrel i vals[i] v (by simp [hi]) hv)
  · have hblk : ∀ b, b < w.heap.size → w'.heap[b]? = w.heap[b]? := hb.block
    have g : bE μ σ w μ σ w' := ⟨hb.os, hb.tape, hb.output, hb.size, fun b hlt _ => hblk b hlt, fun b c ty fr hc => ⟨c, by rw [hblk b (eN hc)]; exact hc, rfl, fun _ _ => rfl⟩, fun b o h => .inl h, fun b h => .inl h, fun _ _ h => h⟩
    refine ⟨cv, μ, he, .d _ _ (hcv.flat hr), ⟨fun id blk hid => di.keep g hs.alt (fun b k hp => ?_) (hs.blks id blk hid), hs.inj, hs.amb, fun b o h => ?_, hs.glob.mono (g.keepCell hs.alt)⟩, g, fun id h => .inl h⟩
    · obtain ⟨_, hc⟩ := di.block (hs.blks id blk hid) hp
      exact hblk b (eN hc)
    · have := hs.alt b o h; have := g.size; omega
end
end Go.AM
