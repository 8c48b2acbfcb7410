import Derived.Test.YtfjelgjfbjjopaaAmN1
import Derived.Defers
set_option linter.unusedVariables false
set_option linter.unusedSectionVars false
set_option linter.unusedSimpArgs false
namespace Go.AM
open Go Go.RowKit
variable [Glob]
section
variable {P : Program} {N na : Nat} {A : Nat → Nat → Prop} {μ μ' : Nat → Option aJ} {T T' : Nat → V} {σ σ' : au} {w w' : World} {a : Act} {n n' : Nat} {l : List aQ} {dst : Option Nat} {op : aM} {K : S → Prop}
theorem step {v : V} {σ' : au} {n' : Nat} (h : ay op (aD T) σ n = some (v, σ', n')) (k : aV P l ⟨aO T dst v, σ', n'⟩ K) : aV P (⟨dst, op, none⟩ :: l) ⟨T, σ, n⟩ K := by
  simp only [aV]
  unfold dj
  split
  · simp [ay] at h
  · simp [ay] at h
  · simp [ay] at h
  · simp [ay] at h
  · simp only [h]; exact k
theorem qJ {g : Nat} {b c : Bool} (hg : T g = .d (.bool c)) (hb : c = b) (k : aV P (⟨dst, op, none⟩ :: l) ⟨T, σ, n⟩ K) : aV P (⟨dst, op, some (g, b)⟩ :: l) ⟨T, σ, n⟩ K := by
  subst hb
  simp only [aV] at k ⊢
  rw [hg]
  simpa [fU] using k
theorem qK {g : Nat} {b c : Bool} (hg : T g = .d (.bool c)) (hb : ¬ c = b) (k : aV P l ⟨aO T dst V.skip, σ, n⟩ K) : aV P (⟨dst, op, some (g, b)⟩ :: l) ⟨T, σ, n⟩ K := by
  simp only [aV]
  rw [hg]
  simpa [fU, hb] using k
theorem aV.nil' (k : K ⟨T, σ, n⟩) : aV P [] ⟨T, σ, n⟩ K := k
theorem cL {f : Nat} {xs : List AX} {ds : List D} {r : D} (ha : bh σ (xs.map (aD T)) ds) (hp : PCall P f ds r) (k : aV P l ⟨aO T dst (.d r), σ, n⟩ K) : aV P (⟨dst, .call false f xs, none⟩ :: l) ⟨T, σ, n⟩ K :=
  ⟨ds, r, ha, hp, k⟩
theorem jz {f : Nat} {xs : List AX} {v : V} {σ' : au} {n' : Nat} (hp : dE P f (xs.map (aD T)) σ n v σ' n') (hn : n ≤ n') (k : aV P l ⟨aO T dst v, σ', n'⟩ K) : aV P (⟨dst, .call true f xs, none⟩ :: l) ⟨T, σ, n⟩ K :=
  ⟨v, σ', n', hp, hn, k⟩
theorem fv {f : Nat} {x : AX} {xs : List AX} {caps ds : List D} {r : D} (hx : aD T x = .d (.func f caps)) (ha : bh σ (xs.map (aD T)) ds) (hp : PCall P f (ds ++ caps) r) (k : aV P l ⟨aO T dst (.d r), σ, n⟩ K) : aV P (⟨dst, .callv false x xs, none⟩ :: l) ⟨T, σ, n⟩ K :=
  ⟨f, caps, ds, r, hx, ha, hp, k⟩
theorem bh.nil' : bh σ [] [] := trivial
theorem bw {vs : List V} {d : D} {ds : List D} (h : bh σ vs ds) : bh σ (.d d :: vs) (d :: ds) := ⟨⟨d, rfl, .refl _⟩, h⟩
theorem bh.nl {vs : List V} {k : Option Nat} {ds : List D} (h : bh σ vs ds) : bh σ (.d .nils :: vs) (.vec k [] :: ds) := ⟨⟨.nils, rfl, .nils k⟩, h⟩
theorem bh.lc {vs : List V} {id len : Nat} {k : Option Nat} {els : List D} {ds : List D} (hid : σ id = some (.lst false k els)) (hl : len = els.length) (h : bh σ vs ds) : bh σ (.loc id 0 len :: vs) (.vec k els :: ds) := by
  refine ⟨⟨.vec k els, ?_, .refl _⟩, h⟩
  subst hl
  simp [cO, cJ, hid]
def qL (P : Program) (G : Nat) : Prop := ∀ (cap : Array Value) (w : World), (invoke (.fn (.func G) cap) #[]).run P w = .ok (.enter G cap) w ∧
  CallsD P G cap .returning w fun e u' w' => u' = .returning ∧ (∃ v, e = .returned v) ∧ w' = w
class DfrOk (P : Program) : Prop where
  ok : ∀ G, G ∈ Glob.dfr → qL P G
  nomk : Glob.base = [] := by rfl
instance (priority := low) noDfr : @DfrOk noGlob P := @DfrOk.mk noGlob P (fun G h => by cases h) rfl
theorem nF [DfrOk P] {fn : Func} {tmps : Array Value} {R : Ending → World → Prop} {w : World} {v : Value} (hr : (results fn tmps).run P w = .ok v w) (hR : R (.returned v) w) : ∀ ds : List Deferred, (∀ d ∈ ds, d.args = #[] ∧ ∃ G cap, G ∈ Glob.dfr ∧ d.target = .fn (.func G) cap) → Leaves P fn tmps R ds .returning w
  | [], _ => ⟨v, hr, hR⟩
  | d :: ds, h => by
    obtain ⟨h1, G, cap, hG, h2⟩ := h d (List.mem_cons_self ..)
    obtain ⟨t, as⟩ := d
    simp only at h1 h2
    subst h1; subst h2
    obtain ⟨k1, k2⟩ := DfrOk.ok (P := P) G hG cap w
    refine leaves_cons (by simp) k1 (k2.mono fun e u' w' ⟨e1, ⟨v', e2⟩, e3⟩ => ?_)
    subst e1; subst e2; subst e3
    exact nF hr hR ds fun d hd => h d (List.mem_cons_of_mem _ hd)
theorem qM [DfrOk P] {fn : Func} {tmps : Array Value} {R : Ending → World → Prop} {w : World} {v : Value} (hr : (results fn tmps).run P w = .ok v w) (hR : R (.returned v) w) (ds : List Deferred) (h : m7 ds) : Leaves P fn tmps R ds .returning w := by
  obtain ⟨l, rfl, h⟩ := h
  rw [(DfrOk.nomk (P := P)), List.append_nil]
  exact nF hr hR l h
theorem nG [DfrOk P] {f : Nat} {af : cm} (hc : cn P f af = true) {vals : List V} {vs : Array Value} (hl : vals.length ≤ af.n) (hs : aB A μ σ w) (hfr : ∀ id, n ≤ id → μ id = none) (hlen : vals.length = vs.size)
    (hrel : ∀ (i : Nat) x v, vals[i]? = some x → vs[i]? = some v → aw μ (ak A μ σ) w x v) {R : S → List V → Prop}
    (h : az P af.n na af.code (fun e s' => (e = .normal ∨ e = .ret) ∧ ∃ rs, db s' af.res = some rs ∧ R s' rs) ⟨eS vals, σ, n⟩) :
    Calls P f vs w fun e w' => ∃ cv μ' s' rs, e = .returned cv ∧ R s' rs ∧ aw μ' (ak A μ' s'.σ) w' (fe rs) cv ∧ aB A μ' s'.σ w' ∧ NG na μ σ w μ' s'.σ w' ∧ ∀ id, s'.n ≤ id → μ' id = none := by
  obtain ⟨h1, fn, c, h2, h3, h4, h5, h6⟩ := kT hc
  refine calls_of_wp_defers h2 h3 ?_
  have hsim : cb af.n A μ ⟨eS vals, σ, n⟩ { tmps := vs ++ Array.replicate (fn.ntmps - vs.size) Go.undef, defers := [] } w := by
    refine ⟨⟨by simp; omega, ⟨[], by rw [DfrOk.nomk (P := P)]; rfl, fun d h => by cases h⟩, fun i => ?_, hs⟩, hfr⟩
    simp only [eS]
    by_cases hi : i < vals.length
    · have e1 : vals[i]? = some vals[i] := by simp [hi]
      have e2 : vs[i]? = some (vs[i]'(by omega)) := by simp
      rw [Array.getD_eq_getD_getElem?, Array.getElem?_append_left (by omega), e1, e2]
      exact hrel i _ _ e1 e2
    · rw [List.getElem?_eq_none (by omega)]
      exact .d _ _ (.undef _)
  refine wp_mono (h c h6 A μ _ w hsim) fun e a' w' ⟨hp, s', μ', ⟨he, rs, hrs, hR⟩, hs', hg⟩ => ?_
  have fin : Leaves P fn a'.tmps (fun e w' => ∃ cv μ' s' rs, e = .returned cv ∧ R s' rs ∧ aw μ' (ak A μ' s'.σ) w' (fe rs) cv ∧ aB A μ' s'.σ w' ∧ NG na μ σ w μ' s'.σ w' ∧ ∀ id, s'.n ≤ id → μ' id = none) a'.defers .returning w' := by
    obtain ⟨cv, g1, g2⟩ := nz (T := s'.T) (n := s'.n) hs'.1.store hs'.1.tmps h5 hrs
    exact qM g1 ⟨cv, μ', s', rs, rfl, hR, g2, hs'.1.store, hg, hs'.2⟩ _ hs'.1.defers
  rcases he with rfl | rfl
  · exact fin
  · exact fin
def FQ (res : List d6) (r : D) (e : Exit) (s' : S) : Prop := (e = .normal ∨ e = .ret) ∧ ∃ rs, db s' res = some rs ∧ ∃ d0, iC s'.σ (fe rs) = some d0 ∧ cK d0 r
theorem PCall.introN [DfrOk P] {f : Nat} {af : cm} (hc : cn P f af = true) {ds : List D} {r : D} (hl : ds.length ≤ af.n)
    (h : az P af.n 0 af.code (FQ af.res r) ⟨eS (ds.map V.d), fun _ => none, 0⟩) : PCall P f ds r := by
  refine ⟨(kT hc).1, fun A w vs halt hglob hlen hrel => ?_⟩
  have hs : aB A (fun _ => none) (fun _ => none) w := { blks := fun _ _ h => (nomatch h), inj := fun _ _ _ _ _ _ _ h => (nomatch h), amb := fun _ _ _ _ h => (nomatch h), alt := halt, glob := hglob.mono fun b o v h1 h2 => ⟨h1, fun h => h.elim (fun ⟨_, _, h3, _⟩ => by cases h3) h2⟩ }
  have hfull : ak A (fun _ => none) (fun _ => none) = A := by
    funext b o
    apply propext
    constructor
    · rintro (⟨id, blk, h1, _⟩ | h)
      · cases h1
      · exact h
    · exact .inr
  refine (nG (A := A) (μ := fun _ => none) (n := 0) hc (vals := ds.map V.d) (by simpa using hl) hs (fun _ _ => rfl) (by simpa using hlen) (fun i x v hx hv => ?_) h).mono fun e w' ⟨cv, μ', s', rs, he, ⟨d0, hR1, hR2⟩, hv', hs', hg, hfr'⟩ => ?_
  · rw [hfull]
    rw [List.getElem?_map] at hx
    cases hd : ds[i]? with
    | none => rw [hd] at hx; cases hx
    | some d => rw [hd] at hx; cases hx; exact .d _ _ (hrel i d v hd hv)
  · refine ⟨cv, he, (nC hs' hR1 hv').sub hR2, ⟨hg.os, hg.tape, hg.output, hg.size, fun b hb => hg.block b hb fun ⟨id, blk, k, h1, _⟩ => by cases h1⟩⟩
def SQ (res : List d6) (v : V) (bl : List (Nat × aK)) (n' : Nat) (e : Exit) (s' : S) : Prop := (e = .normal ∨ e = .ret) ∧ ∃ rs, db s' res = some rs ∧ fe rs = v ∧ (∀ id blk, ag bl id = some blk → s'.σ id = some blk) ∧ s'.n = n'
theorem nI : ∀ {bl : List (Nat × aK)} {id : Nat}, id ∈ bl.map (·.1) → ∃ b, ag bl id = some b
  | [], _, h => by simp at h
  | (s, v) :: bl, id, h => by
    simp only [ag]
    by_cases e : id = s
    · exact ⟨v, by rw [if_pos e]⟩
    · rw [if_neg e]
      simp only [List.map_cons, List.mem_cons] at h
      exact nI (h.resolve_left e)
theorem cy.introN [DfrOk P] {f : Nat} {af : cm} (hc : cn P f af = true) {vals : List V} {bl bl' : List (Nat × aK)} {v : V} (hl : vals.length ≤ af.n) (hdom : bl.map (·.1) = List.range n)
    (h : az P af.n n af.code (SQ af.res v bl' n') ⟨eS vals, ag bl, n⟩) : cy P f vals (ag bl) n v (ag bl') n' := by
  refine ⟨(kT hc).1, fun A μ w vs hs hfr hlen hrel => ?_⟩
  refine (nG hc hl hs hfr hlen hrel (R := fun s' rs => fe rs = v ∧ (∀ id blk, ag bl' id = some blk → s'.σ id = some blk) ∧ s'.n = n') h).mono fun e w' ⟨cv, μ', s', rs, he, ⟨hR1, hR2, hR3⟩, hv', hs', hg, hfr'⟩ => ?_
  subst hR1
  have hd := hs'.drop hR2
  have gd : aA μ' s'.σ w' μ' (ag bl') w' := aA.drop hR2
  have hg := hg.trans gd.ng
  refine ⟨cv, μ', he, gd.keepV hs'.alt hv', hd, ⟨hg.os, hg.tape, hg.output, hg.size, hg.block, hg.cells, hg.own, hg.ownB, fun id p hp => ?_⟩, fun id h => ?_⟩
  · have : id < n := by
      rcases Nat.lt_or_ge id n with h' | h'
      · exact h'
      · rw [hfr id h'] at hp; cases hp
    exact hg.grow id p this hp
  · have h1 : id < n' := by
      rcases Nat.lt_or_ge id n' with h' | h'
      · exact h'
      · exact (h (hfr' id (by omega))).elim
    rcases Nat.lt_or_ge id n with h' | h'
    · cases hm : μ id with
      | none =>
        have hm' : id ∈ bl.map (·.1) := by rw [hdom]; exact List.mem_range.2 h'
        obtain ⟨b, hb⟩ := nI hm'
        exact ((hs.blks id b hb).placed hm).elim
      | some p => exact .inl (by simp)
    · exact .inr ⟨h', h1⟩
def ff (σ : au) : List (Nat × aK) → Prop
  | [] => True
  | p :: l => σ p.1 = some p.2 ∧ ff σ l
theorem ff.sub : ∀ {bl : List (Nat × aK)}, ff σ bl → ∀ id blk, ag bl id = some blk → σ id = some blk
  | [], _, id, blk, h => by cases h
  | (i, b) :: bl, h, id, blk, hb => by
    simp only [ag] at hb
    split at hb
    · rename_i e; subst e; cases hb; exact h.1
    · exact h.2.sub id blk hb
mutual
def V.ren (ρ : Nat → Nat) : V → V
  | .d x => .d x
  | .loc id off len => .loc (ρ id) off len
  | .ptr id i j => .ptr (ρ id) i j
  | .agg cs => .agg (fw ρ cs)
  | .tup vs => .tup (fw ρ vs)
  | .func f cap => .func f (fw ρ cap)
  | .iface t v => .iface t (v.ren ρ)
  | .mapr id => .mapr (ρ id)
  | .mref id => .mref (ρ id)
def fw (ρ : Nat → Nat) : List V → List V
  | [] => []
  | v :: l => v.ren ρ :: fw ρ l
end
theorem iD (ρ : Nat → Nat) : ∀ l : List V, fw ρ l = l.map (V.ren ρ)
  | [] => by simp [fw]
  | v :: l => by simp [fw, iD ρ l]
def aK.ren (ρ : Nat → Nat) : aK → aK
  | .lst m k els => .lst m k els
  | .var cs => .var (fw ρ cs)
  | .mp es => .mp es
theorem aw.ren {ρ : Nat → Nat} {μ0 : Nat → Option aJ} {O : Nat → Nat → Prop} (hμ : ∀ id p, μ id = some p → μ0 (ρ id) = some p) {x : V} {u : Value} (h : aw μ O w x u) : aw μ0 O w (x.ren ρ) u := by
  induction h with
  | d x v hd => exact .d x v hd
  | loc0 id off a h1 =>
    cases hp : μ id with
    | none => exact (h1 hp).elim
    | some p => exact .loc0 _ _ _ (by rw [hμ id p hp]; simp)
  | loc id off len b k cap h1 h2 h3 h4 => exact .loc _ _ _ b k cap (hμ _ _ h1) h2 h3 h4
  | ptr id i j b k h1 => exact .ptr _ _ _ b k (hμ _ _ h1)
  | agg vs cs hl _ ih =>
    simp only [V.ren, iD]
    refine .agg _ cs (by simpa using hl) fun i x v hx hv => ?_
    rw [List.getElem?_map] at hx
    cases hq : vs[i]? with
    | none => rw [hq] at hx; cases hx
    | some y => rw [hq] at hx; cases hx; exact ih i y v hq hv
  | tup vs cs hl _ ih =>
    simp only [V.ren, iD]
    refine .tup _ cs (by simpa using hl) fun i x v hx hv => ?_
    rw [List.getElem?_map] at hx
    cases hq : vs[i]? with
    | none => rw [hq] at hx; cases hx
    | some y => rw [hq] at hx; cases hx; exact ih i y v hq hv
  | func f vs cs hl _ ih =>
    simp only [V.ren, iD]
    refine .func f _ cs (by simpa using hl) fun i x v hx hv => ?_
    rw [List.getElem?_map] at hx
    cases hq : vs[i]? with
    | none => rw [hq] at hx; cases hx
    | some y => rw [hq] at hx; cases hx; exact ih i y v hq hv
  | iface t x v _ ih => exact .iface t _ v ih
  | nne id a c h1 => exact .nne _ a c h1
  | mref id b k h1 => exact .mref _ b k (hμ _ _ h1)
def up (rl : List Nat) (n id : Nat) : Nat := if id < rl.length then rn rl id else n + (id - rl.length)
def rem : List Nat → au → au
  | [], σ => σ
  | i :: l, σ => aj (rem l σ) i none
def dQ (ρ : Nat → Nat) : List (Nat × aK) → au → au
  | [], σ => σ
  | (i, b) :: l, σ => aj (dQ ρ l σ) (ρ i) (some (b.ren ρ))
theorem kW : ∀ (l : List Nat) (σ : au) (i : Nat), rem l σ i = if i ∈ l then none else σ i
  | [], σ, i => by simp [rem]
  | j :: l, σ, i => by
    simp only [rem, qD, kW l σ i, List.mem_cons]
    by_cases e : i = j <;> simp [e]
theorem nJ {ρ : Nat → Nat} : ∀ {l : List (Nat × aK)} {σ : au} {i : Nat}, (∀ p ∈ l, ρ p.1 ≠ i) → dQ ρ l σ i = σ i
  | [], σ, i, _ => rfl
  | (j, b) :: l, σ, i, h => by
    simp only [dQ]
    rw [aG _ _ (fun e => h (j, b) (by simp) e.symm)]
    exact nJ fun p hp => h p (by simp [hp])
theorem nK {ρ : Nat → Nat} : ∀ {l : List (Nat × aK)} {σ : au} {i : Nat} {blk : aK}, (∀ p ∈ l, ∀ q ∈ l, ρ p.1 = ρ q.1 → p.1 = q.1) → dQ ρ l σ i = some blk → (∃ j b, ρ j = i ∧ ag l j = some b ∧ blk = b.ren ρ) ∨ ((∀ p ∈ l, ρ p.1 ≠ i) ∧ σ i = some blk)
  | [], σ, i, blk, _, h => .inr ⟨fun p hp => by simp at hp, h⟩
  | (j, b) :: l, σ, i, blk, hinj, h => by
    simp only [dQ] at h
    by_cases e : i = ρ j
    · subst e
      rw [aL] at h; cases h
      exact .inl ⟨j, b, rfl, by simp [ag], rfl⟩
    · rw [aG _ _ e] at h
      rcases nK (fun p hp q hq => hinj p (by simp [hp]) q (by simp [hq])) h with ⟨j', b', h1, h2, h3⟩ | ⟨h1, h2⟩
      · refine .inl ⟨j', b', h1, ?_, h3⟩
        simp only [ag]
        by_cases e2 : j' = j
        · subst e2; exact (e h1.symm).elim
        · rw [if_neg e2]; exact h2
      · refine .inr ⟨fun p hp => ?_, h2⟩
        rcases List.mem_cons.1 hp with rfl | hp
        · exact fun e' => e e'.symm
        · exact h1 p hp
end
end Go.AM
