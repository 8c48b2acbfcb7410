import Derived.Test.YtnnkfanmokeiaaaAmN1
import Derived.Defers
/-  Several texts in one. -/
section
set_option linter.unusedVariables false
set_option linter.unusedSectionVars false
set_option linter.unusedSimpArgs false
namespace Go.AM
open Go Go.RowKit
variable [Glob]
section
variable {P : Program} {N na : Nat} {A : Nat → Nat → Prop} {μ μ' : Nat → Option bI} {T T' : Nat → V} {σ σ' : aL} {w w' : World} {a : Act} {n n' : Nat} {l : List bL} {dst : Option Nat} {op : bF} {K : S → Prop}
theorem step {v : V} {σ' : aL} {n' : Nat} (h : aI op (aF T) σ n = some (v, σ', n')) (k : aQ P l ⟨bD T dst v, σ', n'⟩ K) : aQ P (⟨dst, op, none⟩ :: l) ⟨T, σ, n⟩ K := by
  simp only [aQ]
  unfold fV
  split
  · simp [aI] at h
  · simp [aI] at h
  · simp [aI] at h
  · simp [aI] at h
  · simp only [h]; exact k
theorem tO {g : Nat} {b c : Bool} (hg : T g = .d (.bool c)) (hb : c = b) (k : aQ P (⟨dst, op, none⟩ :: l) ⟨T, σ, n⟩ K) : aQ P (⟨dst, op, some (g, b)⟩ :: l) ⟨T, σ, n⟩ K := by
  subst hb
  simp only [aQ] at k ⊢
  rw [hg]
  simpa [iO] using k
theorem tP {g : Nat} {b c : Bool} (hg : T g = .d (.bool c)) (hb : ¬ c = b) (k : aQ P l ⟨bD T dst V.skip, σ, n⟩ K) : aQ P (⟨dst, op, some (g, b)⟩ :: l) ⟨T, σ, n⟩ K := by
  simp only [aQ]
  rw [hg]
  simpa [iO, hb] using k
theorem bE {g : Nat} {b : Bool} (hg : T g = V.skip) (k : aQ P l ⟨bD T dst V.skip, σ, n⟩ K) : aQ P (⟨dst, op, some (g, b)⟩ :: l) ⟨T, σ, n⟩ K := by
  simp only [aQ]
  rw [hg]
  simpa [iO, V.skip] using k
theorem aQ.nil' (k : K ⟨T, σ, n⟩) : aQ P [] ⟨T, σ, n⟩ K := k
theorem bN {f : Nat} {xs : List AX} {ds : List D} {r : D} (ha : bq σ (xs.map (aF T)) ds) (hp : PCall P f ds r) (k : aQ P l ⟨bD T dst (.d r), σ, n⟩ K) : aQ P (⟨dst, .call false f xs, none⟩ :: l) ⟨T, σ, n⟩ K :=
  ⟨ds, r, ha, hp, k⟩
theorem md {f : Nat} {xs : List AX} {v : V} {σ' : aL} {n' : Nat} (hp : gf P f (xs.map (aF T)) σ n v σ' n') (hn : n ≤ n') (k : aQ P l ⟨bD T dst v, σ', n'⟩ K) : aQ P (⟨dst, .call true f xs, none⟩ :: l) ⟨T, σ, n⟩ K :=
  ⟨v, σ', n', hp, hn, k⟩
theorem nN {f : Nat} {x : AX} {xs : List AX} {caps ds : List D} {r : D} (hx : aF T x = .d (.func f caps)) (ha : bq σ (xs.map (aF T)) ds) (hp : PCall P f (ds ++ caps) r) (k : aQ P l ⟨bD T dst (.d r), σ, n⟩ K) : aQ P (⟨dst, .callv false x xs, none⟩ :: l) ⟨T, σ, n⟩ K :=
  ⟨f, caps, ds, r, hx, ha, hp, k⟩
theorem bq.nil' : bq σ [] [] := trivial
theorem aO {vs : List V} {d : D} {ds : List D} (h : bq σ vs ds) : bq σ (.d d :: vs) (d :: ds) := ⟨⟨d, rfl, .refl _⟩, h⟩
theorem bq.nl {vs : List V} {k : Option Nat} {ds : List D} (h : bq σ vs ds) : bq σ (.d .nils :: vs) (.vec k [] :: ds) := ⟨⟨.nils, rfl, .nils k⟩, h⟩
theorem bq.lc {vs : List V} {id len : Nat} {k : Option Nat} {els : List D} {ds : List D} (hid : σ id = some (.lst false k els)) (hl : len = els.length) (h : bq σ vs ds) : bq σ (.loc id 0 len :: vs) (.vec k els :: ds) := by
  refine ⟨⟨.vec k els, ?_, .refl _⟩, h⟩
  subst hl
  simp [dH, dR, hid]
theorem zo {vs : List V} {v : V} {d d0 : D} {ds : List D} (hv : dH σ v = some d0) (hd : eg d0 d) (h : bq σ vs ds) : bq σ (v :: vs) (d :: ds) := ⟨⟨d0, hv, hd⟩, h⟩
def zp (P : Program) (G : Nat) : Prop := ∀ (cap : Array Value) (w : World), (invoke (.fn (.func G) cap) #[]).run P w = .ok (.enter G cap) w ∧
  CallsD P G cap .returning w fun e u' w' => u' = .returning ∧ (∃ v, e = .returned v) ∧ w' = w
class DfrOk (P : Program) : Prop where
  ok : ∀ G, G ∈ Glob.dfr → zp P G
instance (priority := low) noDfr : @DfrOk noGlob P := @DfrOk.mk noGlob P fun G h => by cases h
theorem tQ [DfrOk P] {fn : Func} {tmps : Array Value} {R : Ending → World → Prop} {w : World} {v : Value} (hr : (results fn tmps).run P w = .ok v w) (hR : R (.returned v) w) : ∀ ds : List Deferred, tn ds → Leaves P fn tmps R ds .returning w
  | [], _ => ⟨v, hr, hR⟩
  | d :: ds, h => by
    obtain ⟨h1, G, cap, hG, h2⟩ := h d (List.mem_cons_self ..)
    obtain ⟨t, as⟩ := d
    simp only at h1 h2
    subst h1; subst h2
    obtain ⟨k1, k2⟩ := DfrOk.ok (P := P) G hG cap w
    refine leaves_cons (by simp) k1 (k2.mono fun e u' w' ⟨e1, ⟨v', e2⟩, e3⟩ => ?_)
    subst e1; subst e2; subst e3
    exact tQ hr hR ds fun d hd => h d (List.mem_cons_of_mem _ hd)
theorem tR [DfrOk P] {f : Nat} {af : bY} (hc : j8 P f af = true) {vals : List V} {vs : Array Value} (hl : vals.length ≤ af.n) (hs : bm A μ σ w) (hfr : ∀ id, n ≤ id → μ id = none) (hlen : vals.length = vs.size)
    (hrel : ∀ (i : Nat) x v, vals[i]? = some x → vs[i]? = some v → aR μ (aD A μ σ) w x v) {R : S → List V → Prop}
    (h : bG P af.n na af.code (fun e s' => (e = .normal ∨ e = .ret) ∧ ∃ rs, fB s' af.res = some rs ∧ R s' rs) ⟨j9 vals, σ, n⟩) :
    Calls P f vs w fun e w' => ∃ cv μ' s' rs, e = .returned cv ∧ R s' rs ∧ aR μ' (aD A μ' s'.σ) w' (iR rs) cv ∧ bm A μ' s'.σ w' ∧ NG na μ σ w μ' s'.σ w' ∧ ∀ id, s'.n ≤ id → μ' id = none := by
  obtain ⟨h1, fn, c, h2, h3, h4, h5, h6⟩ := qc hc
  refine calls_of_wp_defers h2 h3 ?_
  have hsim : j7 af.n A μ ⟨j9 vals, σ, n⟩ { tmps := vs ++ Array.replicate (fn.ntmps - vs.size) Go.undef, defers := [] } w := by
    refine ⟨⟨by simp; omega, (fun d h => by cases h), fun i => ?_, hs⟩, hfr⟩
    simp only [j9]
    by_cases hi : i < vals.length
    · have e1 : vals[i]? = some vals[i] := by simp [hi]
      have e2 : vs[i]? = some (vs[i]'(by omega)) := by simp
      rw [Array.getD_eq_getD_getElem?, Array.getElem?_append_left (by omega), e1, e2]
      exact hrel i _ _ e1 e2
    · rw [List.getElem?_eq_none (by omega)]
      exact .d _ _ (.undef _)
  refine wp_mono (h c h6 A μ _ w hsim) fun e a' w' ⟨hp, s', μ', ⟨he, rs, hrs, hR⟩, hs', hg⟩ => ?_
  have fin : Leaves P fn a'.tmps (fun e w' => ∃ cv μ' s' rs, e = .returned cv ∧ R s' rs ∧ aR μ' (aD A μ' s'.σ) w' (iR rs) cv ∧ bm A μ' s'.σ w' ∧ NG na μ σ w μ' s'.σ w' ∧ ∀ id, s'.n ≤ id → μ' id = none) a'.defers .returning w' := by
    obtain ⟨cv, g1, g2⟩ := zf (T := s'.T) (n := s'.n) hs'.1.store hs'.1.tmps h5 hrs
    exact tQ g1 ⟨cv, μ', s', rs, rfl, hR, g2, hs'.1.store, hg, hs'.2⟩ _ hs'.1.defers
  rcases he with rfl | rfl
  · exact fin
  · exact fin
def FQ (res : List gO) (r : D) (e : Exit) (s' : S) : Prop := (e = .normal ∨ e = .ret) ∧ ∃ rs, fB s' res = some rs ∧ ∃ d0, kY s'.σ (iR rs) = some d0 ∧ eg d0 r
theorem PCall.introN [DfrOk P] {f : Nat} {af : bY} (hc : j8 P f af = true) {ds : List D} {r : D} (hl : ds.length ≤ af.n)
    (h : bG P af.n 0 af.code (FQ af.res r) ⟨j9 (ds.map V.d), fun _ => none, 0⟩) : PCall P f ds r := by
  refine ⟨(qc hc).1, fun A w vs halt hglob hlen hrel => ?_⟩
  have hs : bm A (fun _ => none) (fun _ => none) w := { blks := fun _ _ h => (nomatch h), inj := fun _ _ _ _ _ _ _ h => (nomatch h), amb := fun _ _ _ _ h => (nomatch h), alt := halt, glob := hglob.mono fun b o v h1 h2 => ⟨h1, fun h => h.elim (fun ⟨_, _, h3, _⟩ => by cases h3) h2⟩ }
  have hfull : aD A (fun _ => none) (fun _ => none) = A := by
    funext b o
    apply propext
    constructor
    · rintro (⟨id, blk, h1, _⟩ | h)
      · cases h1
      · exact h
    · exact .inr
  refine (tR (A := A) (μ := fun _ => none) (n := 0) hc (vals := ds.map V.d) (by simpa using hl) hs (fun _ _ => rfl) (by simpa using hlen) (fun i x v hx hv => ?_) h).mono fun e w' ⟨cv, μ', s', rs, he, ⟨d0, hR1, hR2⟩, hv', hs', hg, hfr'⟩ => ?_
  · rw [hfull]
    rw [List.getElem?_map] at hx
    cases hd : ds[i]? with
    | none => rw [hd] at hx; cases hx
    | some d => rw [hd] at hx; cases hx; exact .d _ _ (hrel i d v hd hv)
  · refine ⟨cv, he, (tL hs' hR1 hv').sub hR2, ⟨hg.os, hg.tape, hg.output, hg.size, fun b hb => hg.block b hb fun ⟨id, blk, k, h1, _⟩ => by cases h1⟩⟩
def SQ (res : List gO) (v : V) (bl : List (Nat × bu)) (n' : Nat) (e : Exit) (s' : S) : Prop := (e = .normal ∨ e = .ret) ∧ ∃ rs, fB s' res = some rs ∧ iR rs = v ∧ (∀ id blk, ai bl id = some blk → s'.σ id = some blk) ∧ s'.n = n'
theorem tT : ∀ {bl : List (Nat × bu)} {id : Nat}, id ∈ bl.map (·.1) → ∃ b, ai bl id = some b
  | [], _, h => by simp at h
  | (s, v) :: bl, id, h => by
    simp only [ai]
    by_cases e : id = s
    · exact ⟨v, by rw [if_pos e]⟩
    · rw [if_neg e]
      simp only [List.map_cons, List.mem_cons] at h
      exact tT (h.resolve_left e)
theorem dp.introN [DfrOk P] {f : Nat} {af : bY} (hc : j8 P f af = true) {vals : List V} {bl bl' : List (Nat × bu)} {v : V} (hl : vals.length ≤ af.n) (hdom : bl.map (·.1) = List.range n)
    (h : bG P af.n n af.code (SQ af.res v bl' n') ⟨j9 vals, ai bl, n⟩) : dp P f vals (ai bl) n v (ai bl') n' := by
  refine ⟨(qc hc).1, fun A μ w vs hs hfr hlen hrel => ?_⟩
  refine (tR hc hl hs hfr hlen hrel (R := fun s' rs => iR rs = v ∧ (∀ id blk, ai bl' id = some blk → s'.σ id = some blk) ∧ s'.n = n') h).mono fun e w' ⟨cv, μ', s', rs, he, ⟨hR1, hR2, hR3⟩, hv', hs', hg, hfr'⟩ => ?_
  subst hR1
  have hd := hs'.drop hR2
  have gd : bk μ' s'.σ w' μ' (ai bl') w' := bk.drop hR2
  have hg := hg.trans gd.ng
  refine ⟨cv, μ', he, gd.keepV hs'.alt hv', hd, ⟨hg.os, hg.tape, hg.output, hg.size, hg.block, hg.cells, hg.own, hg.ownB, fun id p hp => ?_⟩, fun id h => ?_⟩
  · have : id < n := by
      rcases Nat.lt_or_ge id n with h' | h'
      · exact h'
      · rw [hfr id h'] at hp; cases hp
    exact hg.grow id p this hp
  · have h1 : id < n' := by
      rcases Nat.lt_or_ge id n' with h' | h'
      · exact h'
      · exact (h (hfr' id (by omega))).elim
    rcases Nat.lt_or_ge id n with h' | h'
    · cases hm : μ id with
      | none =>
        have hm' : id ∈ bl.map (·.1) := by rw [hdom]; exact List.mem_range.2 h'
        obtain ⟨b, hb⟩ := tT hm'
        exact ((hs.blks id b hb).placed hm).elim
      | some p => exact .inl (by simp)
    · exact .inr ⟨h', h1⟩
def fW (σ : aL) : List (Nat × bu) → Prop
  | [] => True
  | p :: l => σ p.1 = some p.2 ∧ fW σ l
theorem fW.sub : ∀ {bl : List (Nat × bu)}, fW σ bl → ∀ id blk, ai bl id = some blk → σ id = some blk
  | [], _, id, blk, h => by cases h
  | (i, b) :: bl, h, id, blk, hb => by
    simp only [ai] at hb
    split at hb
    · rename_i e; subst e; cases hb; exact h.1
    · exact h.2.sub id blk hb
mutual
def V.ren (ρ : Nat → Nat) : V → V
  | .d x => .d x
  | .loc id off len => .loc (ρ id) off len
  | .ptr id i j => .ptr (ρ id) i j
  | .agg cs => .agg (jl ρ cs)
  | .tup vs => .tup (jl ρ vs)
  | .func f cap => .func f (jl ρ cap)
  | .iface t v => .iface t (v.ren ρ)
  | .mapr id => .mapr (ρ id)
  | .mref id => .mref (ρ id)
def jl (ρ : Nat → Nat) : List V → List V
  | [] => []
  | v :: l => v.ren ρ :: jl ρ l
end
theorem mf (ρ : Nat → Nat) : ∀ l : List V, jl ρ l = l.map (V.ren ρ)
  | [] => by simp [jl]
  | v :: l => by simp [jl, mf ρ l]
def bu.ren (ρ : Nat → Nat) : bu → bu
  | .lst m k els => .lst m k els
  | .var cs => .var (jl ρ cs)
  | .mp es => .mp es
theorem aR.ren {ρ : Nat → Nat} {μ0 : Nat → Option bI} {O : Nat → Nat → Prop} (hμ : ∀ id p, μ id = some p → μ0 (ρ id) = some p) {x : V} {u : Value} (h : aR μ O w x u) : aR μ0 O w (x.ren ρ) u := by
  induction h with
  | d x v hd => exact .d x v hd
  | loc0 id off a h1 =>
    cases hp : μ id with
    | none => exact (h1 hp).elim
    | some p => exact .loc0 _ _ _ (by rw [hμ id p hp]; simp)
  | loc id off len b k cap h1 h2 h3 h4 => exact .loc _ _ _ b k cap (hμ _ _ h1) h2 h3 h4
  | ptr id i j b k h1 => exact .ptr _ _ _ b k (hμ _ _ h1)
  | agg vs cs hl _ ih =>
    simp only [V.ren, mf]
    refine .agg _ cs (by simpa using hl) fun i x v hx hv => ?_
    rw [List.getElem?_map] at hx
    cases hq : vs[i]? with
    | none => rw [hq] at hx; cases hx
    | some y => rw [hq] at hx; cases hx; exact ih i y v hq hv
  | tup vs cs hl _ ih =>
    simp only [V.ren, mf]
    refine .tup _ cs (by simpa using hl) fun i x v hx hv => ?_
    rw [List.getElem?_map] at hx
    cases hq : vs[i]? with
    | none => rw [hq] at hx; cases hx
    | some y => rw [hq] at hx; cases hx; exact ih i y v hq hv
  | func f vs cs hl _ ih =>
    simp only [V.ren, mf]
    refine .func f _ cs (by simpa using hl) fun i x v hx hv => ?_
    rw [List.getElem?_map] at hx
    cases hq : vs[i]? with
    | none => rw [hq] at hx; cases hx
    | some y => rw [hq] at hx; cases hx; exact ih i y v hq hv
  | iface t x v _ ih => exact .iface t _ v ih
  | nne id a c h1 => exact .nne _ a c h1
  | mref id b k h1 => exact .mref _ b k (hμ _ _ h1)
def up (rl : List Nat) (n id : Nat) : Nat := if id < rl.length then rn rl id else n + (id - rl.length)
def rem : List Nat → aL → aL
  | [], σ => σ
  | i :: l, σ => aw (rem l σ) i none
def gB (ρ : Nat → Nat) : List (Nat × bu) → aL → aL
  | [], σ => σ
  | (i, b) :: l, σ => aw (gB ρ l σ) (ρ i) (some (b.ren ρ))
theorem qf : ∀ (l : List Nat) (σ : aL) (i : Nat), rem l σ i = if i ∈ l then none else σ i
  | [], σ, i => by simp [rem]
  | j :: l, σ, i => by
    simp only [rem, zj, qf l σ i, List.mem_cons]
    by_cases e : i = j <;> simp [e]
theorem tU {ρ : Nat → Nat} : ∀ {l : List (Nat × bu)} {σ : aL} {i : Nat}, (∀ p ∈ l, ρ p.1 ≠ i) → gB ρ l σ i = σ i
  | [], σ, i, _ => rfl
  | (j, b) :: l, σ, i, h => by
    simp only [gB]
    rw [bg _ _ (fun e => h (j, b) (by simp) e.symm)]
    exact tU fun p hp => h p (by simp [hp])
theorem tV {ρ : Nat → Nat} : ∀ {l : List (Nat × bu)} {σ : aL} {i : Nat} {blk : bu}, (∀ p ∈ l, ∀ q ∈ l, ρ p.1 = ρ q.1 → p.1 = q.1) → gB ρ l σ i = some blk → (∃ j b, ρ j = i ∧ ai l j = some b ∧ blk = b.ren ρ) ∨ ((∀ p ∈ l, ρ p.1 ≠ i) ∧ σ i = some blk)
  | [], σ, i, blk, _, h => .inr ⟨fun p hp => by simp at hp, h⟩
  | (j, b) :: l, σ, i, blk, hinj, h => by
    simp only [gB] at h
    by_cases e : i = ρ j
    · subst e
      rw [bz] at h; cases h
      exact .inl ⟨j, b, rfl, by simp [ai], rfl⟩
    · rw [bg _ _ e] at h
      rcases tV (fun p hp q hq => hinj p (by simp [hp]) q (by simp [hq])) h with ⟨j', b', h1, h2, h3⟩ | ⟨h1, h2⟩
      · refine .inl ⟨j', b', h1, ?_, h3⟩
        simp only [ai]
        by_cases e2 : j' = j
        · subst e2; exact (e h1.symm).elim
        · rw [if_neg e2]; exact h2
      · refine .inr ⟨fun p hp => ?_, h2⟩
        rcases List.mem_cons.1 hp with rfl | hp
        · exact fun e' => e e'.symm
        · exact h1 p hp
end
end Go.AM
end
section
set_option linter.unusedVariables false
set_option linter.unusedSectionVars false
set_option linter.unusedSimpArgs false
namespace Go.AM
open Go Go.RowKit
variable [Glob]
section
variable {P : Program} {N na : Nat} {A : Nat → Nat → Prop} {μ μ' : Nat → Option bI} {T T' : Nat → V} {σ σ' : aL} {w w' : World} {a : Act} {n n' : Nat} {l : List bL} {dst : Option Nat} {op : bF} {K : S → Prop}
def dC (ρ : Nat → Nat) (n0 : Nat) : List V → List V → Prop
  | [], [] => True
  | x :: l, y :: r => VN ρ n0 x y ∧ dC ρ n0 l r
  | _, _ => False
theorem dC.all {ρ : Nat → Nat} {n0 : Nat} : ∀ {l r : List V}, dC ρ n0 l r → l.length = r.length ∧ ∀ (i : Nat) x y, l[i]? = some x → r[i]? = some y → VN ρ n0 x y
  | [], [], _ => ⟨rfl, fun i x y h => by simp at h⟩
  | x :: l, y :: r, h => by
    obtain ⟨h1, h2⟩ := dC.all h.2
    refine ⟨by simp [h1], fun i u v hu hv => ?_⟩
    cases i with
    | zero => simp at hu hv; subst hu; subst hv; exact h.1
    | succ i => exact h2 i u v (by simpa using hu) (by simpa using hv)
  | [], _ :: _, h => h.elim
  | _ :: _, [], h => h.elim
theorem tW {rl : List Nat} (hnd : rl.Nodup) {a b : Nat} (ha : a < rl.length) (hb : b < rl.length) (h : rn rl a = rn rl b) : a = b := by
  simp only [rn, List.getD_eq_getElem?_getD, bU ha, bU hb, Option.getD_some] at h
  exact (List.getElem_inj hnd).1 h
theorem kZ {rl : List Nat} {a : Nat} (ha : a < rl.length) : rn rl a ∈ rl := by
  simp [rn, List.getD_eq_getElem?_getD, bU ha]
theorem nQ {f : Nat} {vals vals0 : List V} {bl bl' : List (Nat × bu)} {v0 : V} {n0' : Nat} (rl : List Nat) (h : dp P f vals0 (ai bl) rl.length v0 (ai bl') n0') (hn0 : rl.length ≤ n0') (hnd : rl.Nodup) (hlt : ∀ i ∈ rl, i < n) (hdom : ∀ p ∈ bl', p.1 < n0')
    (hv : dC (rn rl) rl.length vals vals0) (hσ : SN (rn rl) rl.length σ bl) : gf P f vals σ n (v0.ren (up rl n)) (gB (up rl n) bl' (rem rl σ)) (n + (n0' - rl.length)) := by
  refine ⟨h.1, fun A μ w vs hs hfr hlen hrel => ?_⟩
  obtain ⟨hvl, hvv⟩ := hv.all
  have hσ := hσ.all
  -- the callee's view
  let μ1 : Nat → Option bI := fun id => if id < rl.length then μ (rn rl id) else none
  have hμ1 : ∀ id, id < rl.length → μ1 id = μ (rn rl id) := fun id h => if_pos h
  let A1 : Nat → Nat → Prop := fun b o => A b o ∨ dl μ (rem rl σ) b o
  have hrem : ∀ id blk, rem rl σ id = some blk → id ∉ rl ∧ σ id = some blk := by
    intro id blk h
    rw [qf] at h
    split at h
    · cases h
    · exact ⟨by assumption, h⟩
  have hownF : ∀ b o, dl μ (rem rl σ) b o → dl μ σ b o := by
    rintro b o ⟨id, blk, h1, h2⟩
    exact ⟨id, blk, (hrem id blk h1).2, h2⟩
  have hown1 : ∀ b o, dl μ1 (ai bl) b o → dl μ σ b o := by
    rintro b o ⟨id, blk, h1, h2⟩
    obtain ⟨h3, b', h4, h5⟩ := hσ id blk h1
    rw [hμ1 id h3] at h2
    exact ⟨rn rl id, b', h4, h5.owns h2⟩
  have hownB1 : ∀ b, fG μ1 (ai bl) b → ∃ id ∈ rl, ∃ blk k, σ id = some blk ∧ μ id = some (.at b k) := by
    rintro b ⟨id, blk, k, h1, h2⟩
    obtain ⟨h3, b', h4, h5⟩ := hσ id blk h1
    rw [hμ1 id h3] at h2
    exact ⟨rn rl id, kZ h3, b', k, h4, h2⟩
  have hfull1 : ∀ b o, aD A1 μ1 (ai bl) b o → aD A μ σ b o := fun b o h => h.elim (fun h => .inl (hown1 b o h)) fun h => h.elim .inr fun h => .inl (hownF b o h)
  have hD : ∀ {d : D} {u : Value}, DRel (aD A μ σ) w d u → DRel (aD A1 μ1 (ai bl)) w d u := fun h => h.mono fun b o v h1 h2 => ⟨h1, fun h3 => h2 (hfull1 b o h3)⟩
  have hV : ∀ {v : V} {u : Value}, aR μ (aD A μ σ) w v u → aR μ (aD A1 μ1 (ai bl)) w v u := fun h => h.mono (fun b o v h1 h2 => ⟨h1, fun h3 => h2 (hfull1 b o h3)⟩) (fun _ _ h => h) (fun _ _ h => h)
  have hs1 : bm A1 μ1 (ai bl) w := by
    refine ⟨fun id blk h => ?_, fun id id' x y b k k' h1 h2 h3 h4 => ?_, fun id x b k h1 h2 o ho => ?_, fun b o ho => ?_, hs.glob.mono fun b o v h1 h2 => ⟨h1, fun h3 => h2 (hfull1 b o h3)⟩⟩
    · obtain ⟨h3, b', h4, h5⟩ := hσ id blk h
      have hb := hs.blks _ _ h4
      have lst : ∀ m m' k els, cH (aD A μ σ) μ w (rn rl id) (.lst m k els) → cH (aD A1 μ1 (ai bl)) μ1 w id (.lst m' k els) := by
        intro m m' k els hb
        rcases hb with ⟨g1, g2⟩ | ⟨b, c, ty, fr, g1, g2, g3, g4, g5⟩
        · exact .inl ⟨by rw [hμ1 id h3]; exact g1, g2⟩
        · exact .inr ⟨b, c, ty, fr, by rw [hμ1 id h3]; exact g1, g2, g3, g4, fun i d hd => ⟨(g5 i d hd).1, fun j x hx => by
            obtain ⟨v, q1, q2, q3⟩ := (g5 i d hd).2 j x hx
            exact ⟨v, q1, q2, hD q3⟩⟩⟩
      cases h5 with
      | lst m k els => exact lst m m k els hb
      | frz m k els => exact lst m false k els hb
      | var vs us hl hvs =>
        obtain ⟨b, c, ty, fr, g1, g2, g3, g4, g5⟩ := hb
        refine ⟨b, c, ty, fr, by rw [hμ1 id h3]; exact g1, g2, g3, by omega, fun i x v hx hv => ?_⟩
        have hi : i < vs.length := by have := (List.getElem?_eq_some_iff.1 hx).1; omega
        obtain ⟨q1, q2⟩ := g5 i vs[i] v (by simp [hi]) hv
        exact ⟨q1, (hvs i vs[i] x (by simp [hi]) hx).sound hμ1 (hV q2)⟩
      | mp es =>
        obtain ⟨b, c, clk, g1, g2, g3, g4⟩ := hb
        exact ⟨b, c, clk, by rw [hμ1 id h3]; exact g1, g2, g3, fun i p e hp he => ⟨hD (g4 i p e hp he).1, hD (g4 i p e hp he).2⟩⟩
    · obtain ⟨g1, x', g2, _⟩ := hσ id x h1
      obtain ⟨q1, y', q2, _⟩ := hσ id' y h2
      rw [hμ1 id g1] at h3
      rw [hμ1 id' q1] at h4
      exact tW hnd g1 q1 (hs.inj _ _ _ _ _ _ _ g2 q2 h3 h4)
    · obtain ⟨g1, x', g2, _⟩ := hσ id x h1
      rw [hμ1 id g1] at h2
      rcases ho with ho | ho
      · exact hs.amb _ _ _ _ g2 h2 o ho
      · obtain ⟨j, blk, kj, q1, q2⟩ := jP ho
        obtain ⟨q3, q4⟩ := hrem j blk q1
        have := hs.inj _ _ _ _ _ _ _ g2 q4 h2 q2
        exact q3 (this ▸ kZ g1)
    · rcases ho with ho | ho
      · exact hs.alt b o ho
      · obtain ⟨j, blk, kj, q1, q2⟩ := jP (hownF b o ho)
        obtain ⟨_, hc⟩ := cH.block (hs.blks j blk q1) q2
        exact eA hc
  have hfr1 : ∀ id, rl.length ≤ id → μ1 id = none := fun id h => if_neg (by omega)
  refine (h.2 A1 μ1 w vs hs1 hfr1 (by omega) fun i x v hx hv => ?_).mono fun e w' ⟨cv, μ1', he, hcv, hs', hg, hdo⟩ => ?_
  · have hi : i < vals.length := by have := (List.getElem?_eq_some_iff.1 hx).1; omega
    exact (hvv i vals[i] x (by simp [hi]) hx).sound hμ1 (hV (hrel i vals[i] v (by simp [hi]) hv))
  -- back at the caller
  let μ' : Nat → Option bI := fun id => if n ≤ id ∧ id < n + (n0' - rl.length) then μ1' (id - n + rl.length) else μ id
  have hμ' : ∀ id, ¬ (n ≤ id ∧ id < n + (n0' - rl.length)) → μ' id = μ id := fun id h => if_neg h
  have hdom1 : ∀ j p, μ1' j = some p → j < n0' := by
    intro j p hp
    rcases hdo j (by rw [hp]; simp) with h | h
    · rcases Nat.lt_or_ge j rl.length with h' | h'
      · omega
      · exact (h (hfr1 j h')).elim
    · exact h.2
  have hup : ∀ j p, μ1' j = some p → μ' (up rl n j) = some p := by
    intro j p hp
    have hj := hdom1 j p hp
    rcases Nat.lt_or_ge j rl.length with h' | h'
    · have e : up rl n j = rn rl j := if_pos h'
      rw [e, hμ' _ (by have := hlt _ (kZ h'); omega), ← hμ1 j h']
      cases hm : μ1 j with
      | none =>
        rcases hdo j (by rw [hp]; simp) with h | h
        · exact (h hm).elim
        · omega
      | some q =>
        have := hg.grow j q hm
        rw [hp] at this; exact this.symm
    · have e : up rl n j = n + (j - rl.length) := if_neg (by omega)
      rw [e]
      show (if n ≤ n + (j - rl.length) ∧ n + (j - rl.length) < n + (n0' - rl.length) then _ else _) = _
      rw [if_pos (by omega)]
      rw [show n + (j - rl.length) - n + rl.length = j by omega]; exact hp
  have hupinj : ∀ i j, i < n0' → j < n0' → up rl n i = up rl n j → i = j := by
    intro i j hi hj h
    unfold up at h
    split at h <;> split at h
    · rename_i h1 h2; exact tW hnd h1 h2 h
    · rename_i h1 h2; have := hlt _ (kZ h1); omega
    · rename_i h1 h2; have := hlt _ (kZ h2); omega
    · omega
  have hinjL : ∀ p ∈ bl', ∀ q ∈ bl', up rl n p.1 = up rl n q.1 → p.1 = q.1 := fun p hp q hq h => hupinj _ _ (hdom p hp) (hdom q hq) h
  -- what the new store holds
  have hcase : ∀ id blk, gB (up rl n) bl' (rem rl σ) id = some blk → (∃ j b, up rl n j = id ∧ ai bl' j = some b ∧ blk = b.ren (up rl n)) ∨ ((∀ p ∈ bl', up rl n p.1 ≠ id) ∧ id ∉ rl ∧ ¬ (n ≤ id ∧ id < n + (n0' - rl.length)) ∧ σ id = some blk) := by
    intro id blk h
    rcases tV hinjL h with h | ⟨h1, h2⟩
    · exact .inl h
    · obtain ⟨h3, h4⟩ := hrem id blk h2
      refine .inr ⟨h1, h3, fun h' => ?_, h4⟩
      exact (hs.blks id blk h4).placed (hfr id h'.1 h'.2)
  have hback : ∀ j p, μ' (up rl n j) = some p → ai bl' j ≠ none → μ1' j = some p := by
    intro j p hp hb
    cases hb' : ai bl' j with
    | none => exact (hb hb').elim
    | some b =>
      have hpl := (hs'.blks j b hb').placed
      cases hm : μ1' j with
      | none => exact (hpl hm).elim
      | some q => have := hup j q hm; rw [hp] at this; cases this; rfl
  have hren : ∀ (b : bu) (p : Option bI) x o, (b.ren (up rl n)).ownsAt p x o ↔ b.ownsAt p x o := by
    intro b p x o; cases b <;> cases p <;> simp only [bu.ren, bu.ownsAt]
    all_goals (rename_i p; cases p <;> simp [bu.ownsAt])
  have hownN : ∀ b o, dl μ' (gB (up rl n) bl' (rem rl σ)) b o ↔ (dl μ (rem rl σ) b o ∨ dl μ1' (ai bl') b o) := by
    intro b o
    constructor
    · rintro ⟨id, blk, h1, h2⟩
      rcases hcase id blk h1 with ⟨j, b', rfl, g1, rfl⟩ | ⟨g1, g2, g3, g4⟩
      · right
        rw [hren] at h2
        refine ⟨j, b', g1, ?_⟩
        cases hm : μ1' j with
        | none => exact ((hs'.blks j b' g1).placed hm).elim
        | some p => rw [hup j p hm] at h2; exact h2
      · left
        rw [hμ' id g3] at h2
        exact ⟨id, blk, by rw [qf, if_neg g2]; exact g4, h2⟩
    · rintro (⟨id, blk, h1, h2⟩ | ⟨j, b', h1, h2⟩)
      · obtain ⟨h3, h4⟩ := hrem id blk h1
        have hid : ¬ (n ≤ id ∧ id < n + (n0' - rl.length)) := fun h' => (hs.blks id blk h4).placed (hfr id h'.1 h'.2)
        refine ⟨id, blk, ?_, by rw [hμ' id hid]; exact h2⟩
        rw [tU (fun p hp e => ?_)]
        · exact h1
        · unfold up at e
          split at e
          · rename_i h5; exact h3 (e ▸ kZ h5)
          · have := hdom p hp; omega
      · cases hm : μ1' j with
        | none => exact ((hs'.blks j b' h1).placed hm).elim
        | some p =>
          have hj := hdom1 j p hm
          refine ⟨up rl n j, b'.ren (up rl n), ?_, by rw [hup j p hm, hren]; rw [hm] at h2; exact h2⟩
          have key : ∀ (L : List (Nat × bu)) (σ0 : aL), (∀ q ∈ L, q.1 < n0') → ai L j = some b' → gB (up rl n) L σ0 (up rl n j) = some (b'.ren (up rl n)) := by
            intro L
            induction L with
            | nil => intro σ0 _ h; cases h
            | cons q L ih =>
              obtain ⟨q1, q2⟩ := q
              intro σ0 hL h
              simp only [ai] at h
              simp only [gB]
              by_cases e : j = q1
              · subst e; rw [if_pos rfl] at h; cases h; exact bz _ _ _
              · rw [if_neg e] at h
                rw [bg _ _ (fun e' => e (hupinj _ _ hj (hL (q1, q2) (by simp)) e'))]
                exact ih σ0 (fun x hx => hL x (by simp [hx])) h
          exact key bl' _ hdom h1
  have hfullN : aD A μ' (gB (up rl n) bl' (rem rl σ)) = aD A1 μ1' (ai bl') := by
    funext b o
    apply propext
    simp only [aD, hownN, A1]
    constructor
    · rintro ((h | h) | h)
      · exact .inr (.inr h)
      · exact .inl h
      · exact .inr (.inl h)
    · rintro (h | h | h)
      · exact .inl (.inr h)
      · exact .inr h
      · exact .inl (.inl h)
  -- the frame
  have hgN : bk μ σ w μ' (gB (up rl n) bl' (rem rl σ)) w' := by
    refine ⟨hg.os, hg.tape, hg.output, hg.size, fun b hb hn => hg.block b hb fun hB => ?_, fun b c ty fr hc => ?_, fun b o h => ?_, fun b h => ?_, fun id p hp => ?_⟩
    · obtain ⟨id, _, blk, k, h1, h2⟩ := hownB1 b hB
      exact hn ⟨id, blk, k, h1, h2⟩
    · obtain ⟨c', g1, g2, g3⟩ := hg.cells b c ty fr hc
      exact ⟨c', g1, g2, fun o ho => g3 o fun h => ho (hown1 b o h)⟩
    · rcases (hownN b o).1 h with h | h
      · exact .inl (hownF b o h)
      · rcases hg.own b o h with h | h
        · exact .inl (hown1 b o h)
        · exact .inr h
    · obtain ⟨id, blk, k, h1, h2⟩ := h
      rcases hcase id blk h1 with ⟨j, b', rfl, g1, rfl⟩ | ⟨g1, g2, g3, g4⟩
      · rcases hg.ownB b ⟨j, b', k, g1, hback j _ h2 (by rw [g1]; simp)⟩ with h | h
        · obtain ⟨id, _, blk, k, h1, h2⟩ := hownB1 b h
          exact .inl ⟨id, blk, k, h1, h2⟩
        · exact .inr h
      · rw [hμ' id g3] at h2; exact .inl ⟨id, blk, k, g4, h2⟩
    · have : ¬ (n ≤ id ∧ id < n + (n0' - rl.length)) := fun h' => by rw [hfr id h'.1 h'.2] at hp; cases hp
      rw [hμ' id this]; exact hp
  refine ⟨cv, μ', he, ?_, ⟨fun id blk h => ?_, fun id id' x y b k k' h1 h2 h3 h4 => ?_, fun id x b k h1 h2 o ho => ?_, fun b o ho => ?_, by rw [hfullN]; exact hs'.glob⟩, hgN, fun id h => ?_⟩
  · rw [hfullN]; exact hcv.ren hup
  · rcases hcase id blk h with ⟨j, b', rfl, g1, rfl⟩ | ⟨g1, g2, g3, g4⟩
    · have hb := hs'.blks j b' g1
      rw [hfullN]
      cases b' with
      | lst m k els =>
        rcases hb with ⟨q1, q2⟩ | ⟨b, c, ty, fr, q1, q2, q3, q4, q5⟩
        · exact .inl ⟨hup _ _ q1, q2⟩
        · exact .inr ⟨b, c, ty, fr, hup _ _ q1, q2, q3, q4, q5⟩
      | var cs =>
        obtain ⟨b, c, ty, fr, q1, q2, q3, q4, q5⟩ := hb
        simp only [bu.ren, mf]
        refine ⟨b, c, ty, fr, hup _ _ q1, q2, q3, by simpa using q4, fun i x v hx hv => ?_⟩
        rw [List.getElem?_map] at hx
        cases hq : cs[i]? with
        | none => rw [hq] at hx; cases hx
        | some y => rw [hq] at hx; cases hx; exact ⟨(q5 i y v hq hv).1, (q5 i y v hq hv).2.ren hup⟩
      | mp es =>
        obtain ⟨b, c, clk, q1, q2, q3, q4⟩ := hb
        exact ⟨b, c, clk, hup _ _ q1, q2, q3, q4⟩
    · refine cH.keep hgN hs.alt (fun b k hb => ?_) (hs.blks id blk g4)
      obtain ⟨_, hc⟩ := cH.block (hs.blks id blk g4) hb
      refine hg.block b (eA hc) fun hB => ?_
      obtain ⟨id2, hid2, blk2, k2, h3, h4⟩ := hownB1 b hB
      exact g2 (hs.inj _ _ _ _ _ _ _ g4 h3 hb h4 ▸ hid2)
  · have old : ∀ {j : Nat} {b' : bu} {id : Nat} {blk : bu} {b : Nat} {k k' : Option Nat}, ai bl' j = some b' → μ1' j = some (.at b k) → id ∉ rl → σ id = some blk → μ id = some (.at b k') → False := by
      intro j b' id blk b k k' g1 g2 g3 g4 g5
      rcases hg.ownB b ⟨j, b', k, g1, g2⟩ with h | h
      · obtain ⟨id2, hid2, blk2, k2, q1, q2⟩ := hownB1 b h
        exact g3 (hs.inj _ _ _ _ _ _ _ g4 q1 g5 q2 ▸ hid2)
      · obtain ⟨_, hc⟩ := cH.block (hs.blks id blk g4) g5
        have := eA hc; omega
    rcases hcase id x h1 with ⟨j, b', rfl, g1, rfl⟩ | ⟨g1, g2, g3, g4⟩ <;> rcases hcase id' y h2 with ⟨j2, b2, rfl, q1, rfl⟩ | ⟨q1, q2, q3, q4⟩
    · have e1 := hback j _ h3 (by rw [g1]; simp)
      have e2 := hback j2 _ h4 (by rw [q1]; simp)
      rw [hs'.inj j j2 _ _ _ _ _ g1 q1 e1 e2]
    · have e1 := hback j _ h3 (by rw [g1]; simp)
      rw [hμ' _ q3] at h4
      exact (old g1 e1 q2 q4 h4).elim
    · have e2 := hback j2 _ h4 (by rw [q1]; simp)
      rw [hμ' _ g3] at h3
      exact (old q1 e2 g2 g4 h3).elim
    · rw [hμ' _ g3] at h3
      rw [hμ' _ q3] at h4
      exact hs.inj _ _ _ _ _ _ _ g4 q4 h3 h4
  · rcases hcase id x h1 with ⟨j, b', rfl, g1, rfl⟩ | ⟨g1, g2, g3, g4⟩
    · exact hs'.amb j b' b k g1 (hback j _ h2 (by rw [g1]; simp)) o (.inl ho)
    · rw [hμ' _ g3] at h2; exact hs.amb _ _ _ _ g4 h2 o ho
  · have := hs.alt b o ho; have := hg.size; omega
  · by_cases h' : n ≤ id ∧ id < n + (n0' - rl.length)
    · exact .inr h'
    · rw [hμ' id h'] at h; exact .inl h
end
end Go.AM
end
