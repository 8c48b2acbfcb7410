import Derived.Test.YtfjelgjfbjjopaaDoorAmN4
set_option linter.unusedVariables false
set_option linter.unusedSectionVars false
set_option linter.unusedSimpArgs false
namespace Go.AM
open Go Go.RowKit
variable [Glob]
def eL {α : Type} (k : Option Nat) (e : α → D) (l : List α) : D := .vec k (l.map e)
def eA8 {α : Type} (e : α → D) (a : A8 α) : D := .agg ((e a.a0).cells ++ ((e a.a1).cells ++ ((e a.a2).cells ++ ((e a.a3).cells ++ ((e a.a4).cells ++ ((e a.a5).cells ++ ((e a.a6).cells ++ ((e a.a7).cells ++ []))))))))
def ku (P : Program) {α β : Type} (g : D) (ea : α → D) (er : β → D) (f : α → Option β) : Prop := ∃ fn caps, g = .func fn caps ∧ ∀ a r, f a = some r → PCall P fn ([ea a] ++ caps) (er r)
section
variable {P : Program} {N na : Nat} {A : Nat → Nat → Prop} {μ μ' : Nat → Option bA} {T T' : Nat → V} {σ σ' : aB} {w w' : World} {a : Act} {n n' : Nat} {l : List bF} {dst : Option Nat} {op : bw} {K : S → Prop} {α : Type} {e : α → D} {x y lo hi : AX} {k : Option Nat}
theorem nc {l : List α} {i : Int} {v : α} (h : aL l i = some v) : 0 ≤ i ∧ l[i.toNat]? = some v := by
  unfold aL at h; split at h
  · exact ⟨by assumption, h⟩
  · cases h
theorem pH {l : List α} {i : Int} {v : α} (h : aL l i = some v) : 0 ≤ i ∧ i.toNat < l.length := by
  obtain ⟨h0, h1⟩ := nc h
  exact ⟨h0, (List.getElem?_eq_some_iff.1 h1).1⟩
theorem nf {l r : List α} {i : Int} {v : α} (h : dD l i v = some r) : 0 ≤ i ∧ i.toNat < l.length ∧ r = l.set i.toNat v := by
  unfold dD at h; split at h
  · split at h
    · cases h; exact ⟨by assumption, by assumption, rfl⟩
    · cases h
  · cases h
theorem nh {l r : List α} {i : Int} {v : α} (h : dD l i v = some r) : r.length = l.length := by rw [(nf h).2.2, List.length_set]
theorem yV {xs ys zs : List α} (h : cR xs ys = some zs) : xs.length + ys.length ≤ 4294967296 ∧ zs = xs ++ ys := by
  unfold cR at h; split at h
  · cases h; exact ⟨by assumption, rfl⟩
  · cases h
theorem yW {l : List α} {i : Nat} {v : α} (h : l[i]? = some v) : (l.map e)[i]? = some (e v) := by rw [List.getElem?_map, h]; rfl
theorem cz {xs : List α} {i : Int} {v : α} {kk : IntKind} (h : aL xs i = some v) (hx : aE T x = .d (.vec k (xs.map e))) (hy : aE T y = .d (.int kk i)) : aD (.iaddr k x y) (aE T) σ n = some (.d (.cptr k (e v) 0), σ, n) := by
  obtain ⟨h0, h1⟩ := nc h
  simp [aD, hx, hy, h0, yW h1]
theorem eT {xs : List α} {i : Int} {v : α} {kk : IntKind} {id len : Nat} {m : Bool} (h : aL xs i = some v) (hx : aE T x = .loc id 0 len) (hid : σ id = some (.lst m k (xs.map e))) (hl : len = xs.length) (hy : aE T y = .d (.int kk i)) : aD (.iaddr k x y) (aE T) σ n = some (.ptr id i.toNat 0, σ, n) := by
  obtain ⟨h0, h1⟩ := pH h
  have hk : dj σ (.loc id 0 len) = some k := by simp [dj, hid]
  have h2 : i < (len : Int) := by omega
  simp [aD, hx, hy, h0, hk, h2]
theorem fS {xs : List α} {i : Int} {v : α} {id j : Nat} {m : Bool} {kb : Option Nat} {d : D} (h : aL xs i = some v) (hx : aE T x = .ptr id i.toNat j) (hid : σ id = some (.lst m kb (xs.map e))) (hd : ff kb (e v) j k = some d) : aD (.load k x) (aE T) σ n = some (.d d, σ, n) := by
  obtain ⟨h0, h1⟩ := nc h
  simp [aD, da, hx, hid, h1, hd]
theorem ni {xs xs' : List α} {i : Int} {v' : α} {id : Nat} {kb : Option Nat} (h' : dD xs i v' = some xs') (hx : aE T x = .ptr id i.toNat 0) (hy : aE T y = .d (e v')) (hid : σ id = some (.lst true kb (xs.map e))) (hs : (e v').shape kb = true) (h1 : (e v').cells.all D.one = true) :
    aD (.store kb x y) (aE T) σ n = some (V.undef, ai σ id (some (.lst true kb (xs'.map e))), n) := by
  obtain ⟨h0, hlt, rfl⟩ := nf h'
  obtain ⟨v, hv⟩ : ∃ v, xs[i.toNat]? = some v := ⟨xs[i.toNat], by simp [hlt]⟩
  have hd : jn kb (e v) 0 kb (e v') = some (e v') := by unfold jn; rw [if_pos ⟨hs, h1⟩]; simp
  simp only [aD, gh, hx, hy, hid, List.getElem?_map, hv, Option.map_some, hd, List.map_set]
theorem lK {xs : List α} {i : Int} {v : α} {kk : IntKind} {dv : D} (h : aL xs i = some v) (hx : aE T x = .d (.vec k (xs.map e))) (hy : aE T y = .d (.int kk i)) (hu : e v = dv) : aD (.iaddr k x y) (aE T) σ n = some (.d (.cptr k dv 0), σ, n) := by
  rw [← hu]; exact cz h hx hy
def jB (T : Nat → V) (d : Int) : Option AX → Int → Prop
  | none, i => i = d
  | some x, i => ∃ k, aE T x = .d (.int k i)
theorem yX {len : Nat} {lo hi : Option AX} {a b : Int} (hl : jB T 0 lo a) (hh : jB T len hi b) (h : 0 ≤ a ∧ a ≤ b ∧ b ≤ len) : fh len (lo.map (aE T)) (hi.map (aE T)) = some (a.toNat, b.toNat) := by
  unfold fh
  cases lo with
  | none =>
    simp [jB] at hl; subst hl
    cases hi with
    | none => simp [jB] at hh; subst hh; simp
    | some y => obtain ⟨k, hk⟩ := hh; simp [hk, gS, h]
  | some x =>
    obtain ⟨k, hk⟩ := hl
    cases hi with
    | none => simp [jB] at hh; subst hh; simp [hk, gS, h]
    | some y => obtain ⟨k', hk'⟩ := hh; simp [hk, hk', gS, h]
theorem fD {xs : List α} (hx : aE T x = .d (.vec k (xs.map e))) : gB σ k (aE T x) = some (xs.map e) := by
  rw [hx]; simp [gB, fg, dj, eo]
theorem tH {xs : List α} {id len : Nat} {m : Bool} (hx : aE T x = .loc id 0 len) (hid : σ id = some (.lst m k (xs.map e))) (hl : len = xs.length) : gB σ k (aE T x) = some (xs.map e) := by
  subst hl; rw [hx]
  have : (xs.map e).take xs.length = xs.map e := List.take_of_length_le (by simp)
  simp [gB, fg, dj, eo, hid, this]
theorem e9 {xs ys zs : List α} {id len : Nat} {m m' : Bool} (h : cR xs ys = some zs) (hx : aE T x = .loc id 0 len) (hid : σ id = some (.lst m k (xs.map e))) (hl : len = xs.length) (hy : gB σ k (aE T y) = some (ys.map e)) :
    aD (.append k x y m') (aE T) σ n = some (.loc n 0 zs.length, ai (ai σ id none) n (some (.lst m k (zs.map e))), n + 1) := by
  obtain ⟨h1, rfl⟩ := yV h
  subst hl
  simp only [aD, eQ, hy, hx, hid]
  simp [gA, h1]
theorem yY {xs : List α} {z : α} {l c : Int} (h : gZ l z = some xs) (hx : aE T x = .d (.int .i64 l)) (hy : aE T y = .d (.int .i64 c)) (hc : l ≤ c ∧ c ≤ 4294967296) :
    aD (.mkslice k (e z) x y) (aE T) σ n = some (.loc n 0 xs.length, ai σ n (some (.lst true k (xs.map e))), n + 1) := by
  unfold gZ at h
  split at h
  · rename_i hh
    cases h
    simp only [aD, hx, hy, if_pos (show 0 ≤ l ∧ l ≤ c ∧ c ≤ 4294967296 from ⟨hh.1, hc.1, hc.2⟩)]
    simp
  · cases h
theorem yZ {xs ys : List α} {a b : Int} (h : gY xs a b = some ys) : (0 ≤ a ∧ a ≤ b ∧ b ≤ xs.length) ∧ ys = (xs.drop a.toNat).take (b.toNat - a.toNat) := by
  unfold gY at h
  split at h
  · rename_i hc; cases h; exact ⟨hc, rfl⟩
  · cases h
theorem za {xs ys : List α} {lo hi : Option AX} {a b : Int} {id len : Nat} {m : Bool} (h : gY xs a b = some ys) (hx : aE T x = .loc id 0 len) (hid : σ id = some (.lst m k (xs.map e))) (hlen : len = xs.length) (hl : jB T 0 lo a) (hh : jB T xs.length hi b) :
    aD (.slc k x lo hi) (aE T) σ n = some (.loc id a.toNat (b.toNat - a.toNat), σ, n) := by
  obtain ⟨hc, _⟩ := yZ h
  subst hlen
  have hb := yX (len := xs.length) (T := T) (lo := lo) (hi := hi) hl hh hc
  have hk : dj σ (.loc id 0 xs.length) = some k := by simp [dj, hid]
  simp only [aD, hx, hk, if_true, hb, Nat.zero_add]
theorem zb {xs : List α} {z : α} {l : Int} (h : gZ l z = some xs) : l ≤ l ∧ l ≤ 4294967296 := by
  unfold gZ at h
  split at h
  · rename_i hh; exact ⟨Int.le_refl _, hh.2⟩
  · cases h
theorem ze (l : List Int) : lf (l.map (D.int .u8)) = some (iv l) := by
  have : cn ((l.map (D.int .u8)).map gR) = some (l.map fun b => UInt8.ofNat b.toNat) := by
    induction l with
    | nil => rfl
    | cons b l ih =>
      show cn (gR (.int .u8 b) :: (l.map (D.int .u8)).map gR) = _
      simp only [gR, j5, ih, Option.map_some, List.map_cons]
  rw [lf, this]; rfl
theorem zf {xs : List Int} {id len : Nat} {m : Bool} (hx : aE T x = .loc id 0 len) (hid : σ id = some (.lst m none (xs.map (D.int .u8)))) (hl : len = xs.length) : aD (.b2s x) (aE T) σ n = some (.d (.str (iv xs)), σ, n) := by
  subst hl
  have : (xs.map (D.int .u8)).take xs.length = xs.map (D.int .u8) := List.take_of_length_le (by simp)
  simp [aD, hx, fg, dj, eo, hid, this, ze]
theorem zg {kk : IntKind} {p q r : Int} (h : kq kk p q = some r) (hx : aE T x = .d (.int kk p)) (hy : aE T y = .d (.int kk q)) : aD (.bin .quo x y) (aE T) σ n = some (.d (.int kk r), σ, n) := by
  unfold kq at h; split at h
  · cases h
  · rename_i h0; cases h; simp [aD, iP, hx, hy, j6, h0]
theorem zh {kk : IntKind} {p q r : Int} (h : lI p q = some r) (hx : aE T x = .d (.int kk p)) (hy : aE T y = .d (.int kk q)) : aD (.bin .rem x y) (aE T) σ n = some (.d (.int kk r), σ, n) := by
  unfold lI at h; split at h
  · cases h
  · rename_i h0; cases h; simp [aD, iP, hx, hy, j6, h0]
theorem tI {kk k2 : IntKind} {p q r : Int} (h : jA kk p q = some r) (hx : aE T x = .d (.int kk p)) (hy : aE T y = .d (.int k2 q)) : aD (.bin .shl x y) (aE T) σ n = some (.d (.int kk r), σ, n) := by
  unfold jA at h; split at h
  · cases h
  · rename_i h0; cases h; simp [aD, iP, hx, hy, oP, h0]
theorem cV {i : Int} (h : IntKind.i64.wrap (i + 1) = i + 1) (hx : aE T x = .d (.int .i64 i)) (hy : aE T y = .d (.int .i64 1)) : aD (.bin .add x y) (aE T) σ n = some (.d (.int .i64 (i + 1)), σ, n) := by
  simp [aD, iP, hx, hy, j6, h]
theorem cW {i b : Int} (h0 : bM i) (h : i < b) (hb : IntKind.i64.wrap b = b) : IntKind.i64.wrap (i + 1) = i + 1 := by
  rw [oO] at hb ⊢
  simp [bM, IntKind.min, IntKind.max, IntKind.signed, IntKind.bits] at *
  omega
theorem bQ {c : AX} {b : Bool} {v : V} (hc : aE T c = .d (.bool b)) (hb : b = true) (hx : aE T x = v) : aD (.pick c x y) (aE T) σ n = some (v, σ, n) := by
  subst hb; subst hx; simp [aD, hc]
theorem bz {c : AX} {b : Bool} {v : V} (hc : aE T c = .d (.bool b)) (hb : ¬ b = true) (hy : aE T y = v) : aD (.pick c x y) (aE T) σ n = some (v, σ, n) := by
  subst hy; simp at hb; subst hb; simp [aD, hc]
theorem pI {kb : Option Nat} {pre post : List D} {xs : List α} {i : Int} {v : α} {j : Nat} (h : aL xs i = some v) (hj : pre.length = j) (hk : kb ≠ none) : ff kb (.agg (pre ++ (xs.map e ++ post))) (j + i.toNat * 1) none = some (e v) := by
  obtain ⟨h0, h1⟩ := nc h
  have hlt := (pH h).2
  subst hj
  have h2 : xs[i.toNat] = v := by rw [bt hlt] at h1; exact cg h1
  simp [ff, dS, Ne.symm hk, List.getElem?_append, hlt, h2]
def D.sc : D → Bool
  | .int .. | .bool .. | .str .. => true
  | _ => false
def D.flat1 : D → Bool
  | .agg cs => cs.all D.sc
  | d => d.sc
def D.flat : D → Bool
  | .tup cs => cs.all D.flat1
  | d => d.flat1
theorem DRel.sc {O O' : Nat → Nat → Prop} {d : D} {v : Value} (h : DRel O w d v) (hd : d.sc = true) : DRel O' w' d v := by
  cases h <;> simp [D.sc] at hd
  case int k n hr => exact .int k n hr
  case bool b => exact .bool b
  case str s hr => exact .str s hr
theorem DRel.flat1 {O O' : Nat → Nat → Prop} {d : D} {v : Value} (h : DRel O w d v) (hd : d.flat1 = true) : DRel O' w' d v := by
  cases d with
  | agg ds =>
    cases h with
    | agg _ cs hl hr =>
      refine .agg ds cs hl fun i d v h1 h2 => (hr i d v h1 h2).sc ?_
      exact List.all_eq_true.1 hd d (cl h1)
  | _ => exact h.sc hd
theorem DRel.flat {O O' : Nat → Nat → Prop} {d : D} {v : Value} (h : DRel O w d v) (hd : d.flat = true) : DRel O' w' d v := by
  cases d with
  | tup ds =>
    cases h with
    | tup _ cs hl hr =>
      refine .tup ds cs hl fun i d v h1 h2 => (hr i d v h1 h2).flat1 ?_
      exact List.all_eq_true.1 hd d (cl h1)
  | _ => exact h.flat1 hd
inductive dP (σ : aB) : V → D → Prop
  | d (x : D) : dP σ (.d x) x
  | sub {v : V} {x y : D} : dP σ v x → dC x y → dP σ v y
  | loc {id off len : Nat} {m : Bool} {k : Option Nat} {els : List D} : σ id = some (.lst m k els) → off + len ≤ els.length → dP σ (.loc id off len) (.vec k ((els.drop off).take len))
  | var1 {id : Nat} {c : V} {x : D} : σ id = some (.var [c]) → dP σ c x → x.shape none = true → dP σ (.ptr id 0 0) (.cptr none x 0)
  | var {id j : Nat} {cs : List V} {ds : List D} : σ id = some (.var cs) → cs.length = ds.length → (∀ (i : Nat) c x, cs[i]? = some c → ds[i]? = some x → dP σ c x) → dP σ (.ptr id 0 j) (.cptr (some ds.length) (.agg ds) j)
  | elem {id i j : Nat} {m : Bool} {k : Option Nat} {els : List D} {x : D} : σ id = some (.lst m k els) → els[i]? = some x → dP σ (.ptr id i j) (.cptr k x j)
  | agg {cs : List V} {ds : List D} : cs.length = ds.length → (∀ (i : Nat) c x, cs[i]? = some c → ds[i]? = some x → dP σ c x) → dP σ (.agg cs) (.agg ds)
  | func {f : Nat} {cs : List V} {ds : List D} : cs.length = ds.length → (∀ (i : Nat) c x, cs[i]? = some c → ds[i]? = some x → dP σ c x) → dP σ (.func f cs) (.func f ds)
theorem DRel.free {O : Nat → Nat → Prop} {d : D} {v : Value} (h : DRel O w d v) : DRel (fun _ _ => False) w d v := h.mono fun b o v h1 _ => ⟨h1, fun h => h⟩
theorem dP.sound (hs : aQ A μ σ w) {v : V} {d : D} (h : dP σ v d) : ∀ {u : Value}, aJ μ (au A μ σ) w v u → DRel (fun _ _ => False) w d u := by
  induction h with
  | d x => intro u h; cases h with | d _ _ h => exact h.free
  | sub _ hsub ih => intro u h; exact (ih h).sub hsub
  | loc hid hle =>
    rename_i id off len m k els
    intro u h
    have h2 := (kh (hs.frz hid) (v := .loc id off len) (d := .vec k ((els.drop off).take len)) (by simp [dM, bx, hle]) ((aW.frz (w := w) hid).keepV hs.alt h))
    exact h2.free
  | var1 hid _ hsh ih =>
    rename_i id c x _
    intro u h
    cases h with
    | ptr _ _ _ b k hp =>
      obtain ⟨b', cc, ty, fr, g1, g2, g3, g4, g5⟩ := hs.blks id _ hid
      rw [g1] at hp; cases hp
      have hlt : 0 < cc.size := by simp at g4; omega
      obtain ⟨q1, q2⟩ := g5 0 c cc[0] rfl (by simp [hlt])
      have hx := ih q2
      have hc0 : ∀ (i : Nat) y, x.cells[i]? = some y → i = 0 ∧ y = x := by
        intro i y hy
        cases x <;> simp [D.shape] at hsh <;> simp only [D.cells] at hy <;> cases i <;> simp at hy <;> exact ⟨rfl, hy.symm⟩
      have := DRel.cptr (own := fun _ _ => False) (w := w) none x 0 b 0 (fun i => cc[0]) hsh (fun i y hy => by
          obtain ⟨rfl, rfl⟩ := hc0 i y hy
          rw [fP g2]; simp [hlt]) (fun _ _ _ h => h) (fun i y hy => by obtain ⟨rfl, rfl⟩ := hc0 i y hy; exact hx) (fun _ _ _ => q1)
      simpa using this
  | var hid hl _ ih =>
    rename_i id j cs ds _
    intro u h
    cases h with
    | ptr _ _ _ b k hp =>
      obtain ⟨b', cc, ty, fr, g1, g2, g3, g4, g5⟩ := hs.blks id _ hid
      rw [g1] at hp; cases hp
      have key : ∀ (i : Nat) y, ds[i]? = some y → ∃ v, cc[i]? = some v ∧ v.oneCell' = true ∧ DRel (fun _ _ => False) w y v := by
        intro i y hy
        have hi : i < ds.length := (List.getElem?_eq_some_iff.1 hy).1
        have hc : cs[i]? = some (cs[i]'(by omega)) := by simp
        obtain ⟨q1, q2⟩ := g5 i _ (cc[i]'(by omega)) hc (by simp)
        exact ⟨_, by simp, q1, ih i _ y hc hy q2⟩
      have := DRel.cptr (own := fun _ _ => False) (w := w) (some ds.length) (.agg ds) j b 0 (fun i => cc.getD i Go.undef) (by simp [D.shape]) (fun i y hy => by
          obtain ⟨v, h1, _⟩ := key i y hy
          rw [fP g2]; simp [h1]) (fun _ _ _ h => h) (fun i y hy => by
          obtain ⟨v, h1, _, h3⟩ := key i y hy
          simpa [h1] using h3) (fun i y hy => by
          obtain ⟨v, h1, h2, _⟩ := key i y hy
          simpa [h1] using h2)
      simpa using this
  | elem hid hx =>
    rename_i id i j m k els x
    intro u h
    cases h with
    | ptr _ _ _ b kp hp =>
      rcases hs.blks id _ hid with ⟨g1, rfl⟩ | ⟨b', c, ty, fr, g1, g2, g3, g4, g5⟩
      · simp at hx
      · rw [g1] at hp; cases hp
        obtain ⟨q1, q2⟩ := g5 i x hx
        refine .cptr k x j b (i * am k) (fun j => c.getD (i * am k + j) Go.undef) q1 (fun jj y hy => ?_) (fun _ _ _ h => h) (fun jj y hy => ?_) (fun jj y hy => ?_)
        · obtain ⟨v, h1, _⟩ := q2 jj y hy
          rw [fP g2]; simp [h1]
        · obtain ⟨v, h1, _, h3⟩ := q2 jj y hy
          simpa [h1] using h3.free
        · obtain ⟨v, h1, h2, _⟩ := q2 jj y hy
          simpa [h1] using h2
  | agg hl _ ih =>
    rename_i cs ds _
    intro u h
    cases h with
    | agg _ us h1 h2 =>
      refine .agg ds us (by omega) fun i x v hx hv => ?_
      have hi : i < cs.length := by have := (List.getElem?_eq_some_iff.1 hx).1; omega
      exact ih i cs[i] x (by simp [hi]) hx (h2 i cs[i] v (by simp [hi]) hv)
  | func hl _ ih =>
    rename_i f cs ds _
    intro u h
    cases h with
    | func _ _ us h1 h2 =>
      refine .func f ds us (by omega) fun i x v hx hv => ?_
      have hi : i < cs.length := by have := (List.getElem?_eq_some_iff.1 hx).1; omega
      exact ih i cs[i] x (by simp [hi]) hx (h2 i cs[i] v (by simp [hi]) hv)
def dY (σ : aB) : List V → List D → Prop
  | [], [] => True
  | v :: l, d :: r => dP σ v d ∧ dY σ l r
  | _, _ => False
theorem dY.all : ∀ {l : List V} {r : List D}, dY σ l r → l.length = r.length ∧ ∀ (i : Nat) x y, l[i]? = some x → r[i]? = some y → dP σ x y
  | [], [], _ => ⟨rfl, fun i x y h => by simp at h⟩
  | x :: l, y :: r, h => by
    obtain ⟨h1, h2⟩ := dY.all h.2
    refine ⟨by simp [h1], fun i u v hu hv => ?_⟩
    cases i with
    | zero => simp at hu hv; subst hu; subst hv; exact h.1
    | succ i => exact h2 i u v (by simpa using hu) (by simpa using hv)
  | [], _ :: _, h => h.elim
  | _ :: _, [], h => h.elim
theorem zj {f : Nat} {ds : List D} {r : D} (h : PCall P f ds r) (hr : r.flat = true) {vals : List V} (hv : dY σ vals ds) : ew P f vals σ n (.d r) σ n := by
  refine ⟨h.1, fun A μ w vs hs hfr hlen hrel => ?_⟩
  obtain ⟨hl, hall⟩ := hv.all
  refine (h.2 (fun _ _ => False) w vs (fun _ _ h => h.elim) (hs.glob.mono fun b o v h1 h2 => ⟨h1, fun h => h.elim⟩) (by omega) fun i d v hd hv => ?_).mono fun e w' ⟨cv, he, hcv, hb⟩ => ?_
  · have hi : i < vals.length := by have := (List.getElem?_eq_some_iff.1 hd).1; omega
    exact (hall i vals[i] d (by simp [hi]) hd).sound hs (hrel i vals[i] v (by simp [hi]) hv)
  · have hblk : ∀ b, b < w.heap.size → w'.heap[b]? = w.heap[b]? := hb.block
    have g : aW μ σ w μ σ w' := ⟨hb.os, hb.tape, hb.output, hb.size, fun b hlt _ => hblk b hlt, fun b c ty fr hc => ⟨c, by rw [hblk b (dX hc)]; exact hc, rfl, fun _ _ => rfl⟩, fun b o h => .inl h, fun b h => .inl h, fun _ _ h => h⟩
    refine ⟨cv, μ, he, .d _ _ (hcv.flat hr), ⟨fun id blk hid => cG.keep g hs.alt (fun b k hp => ?_) (hs.blks id blk hid), hs.inj, hs.amb, fun b o h => ?_, hs.glob.mono (g.keepCell hs.alt)⟩, g, fun id h => .inl h⟩
    · obtain ⟨_, hc⟩ := cG.block (hs.blks id blk hid) hp
      exact hblk b (dX hc)
    · have := hs.alt b o h; have := g.size; omega
end
end Go.AM
