import Derived.Test.YtfjelgjfbjjopaaDoorAmN1
set_option linter.unusedVariables false
set_option linter.unusedSectionVars false
set_option linter.unusedSimpArgs false
namespace Go.AM
open Go Go.RowKit
variable [Glob]
section
variable {P : Program} {N na : Nat} {A : Nat → Nat → Prop} {μ μ' : Nat → Option bA} {T T' : Nat → V} {σ σ' : aB} {w w' : World} {a : Act} {n n' : Nat} {l : List bF} {dst : Option Nat} {op : bw} {K : S → Prop}
theorem step {v : V} {σ' : aB} {n' : Nat} (h : aD op (aE T) σ n = some (v, σ', n')) (k : ba P l ⟨br T dst v, σ', n'⟩ K) : ba P (⟨dst, op, none⟩ :: l) ⟨T, σ, n⟩ K := by
  simp only [ba]
  unfold fm
  split
  · simp [aD] at h
  · simp [aD] at h
  · simp [aD] at h
  · simp [aD] at h
  · simp only [h]; exact k
theorem tr {g : Nat} {b c : Bool} (hg : T g = .d (.bool c)) (hb : c = b) (k : ba P (⟨dst, op, none⟩ :: l) ⟨T, σ, n⟩ K) : ba P (⟨dst, op, some (g, b)⟩ :: l) ⟨T, σ, n⟩ K := by
  subst hb
  simp only [ba] at k ⊢
  rw [hg]
  simpa [io] using k
theorem tu {g : Nat} {b c : Bool} (hg : T g = .d (.bool c)) (hb : ¬ c = b) (k : ba P l ⟨br T dst V.skip, σ, n⟩ K) : ba P (⟨dst, op, some (g, b)⟩ :: l) ⟨T, σ, n⟩ K := by
  simp only [ba]
  rw [hg]
  simpa [io, hb] using k
theorem eH {g : Nat} {b : Bool} (hg : T g = V.skip) (k : ba P l ⟨br T dst V.skip, σ, n⟩ K) : ba P (⟨dst, op, some (g, b)⟩ :: l) ⟨T, σ, n⟩ K := by
  simp only [ba]
  rw [hg]
  simpa [io, V.skip] using k
theorem ba.nil' (k : K ⟨T, σ, n⟩) : ba P [] ⟨T, σ, n⟩ K := k
theorem bu {f : Nat} {xs : List AX} {ds : List D} {r : D} (ha : aN σ (xs.map (aE T)) ds) (hp : PCall P f ds r) (k : ba P l ⟨br T dst (.d r), σ, n⟩ K) : ba P (⟨dst, .call false f xs, none⟩ :: l) ⟨T, σ, n⟩ K :=
  ⟨ds, r, ha, hp, k⟩
theorem gW {f : Nat} {xs : List AX} {v : V} {σ' : aB} {n' : Nat} (hp : ew P f (xs.map (aE T)) σ n v σ' n') (hn : n ≤ n') (k : ba P l ⟨br T dst v, σ', n'⟩ K) : ba P (⟨dst, .call true f xs, none⟩ :: l) ⟨T, σ, n⟩ K :=
  ⟨v, σ', n', hp, hn, k⟩
theorem lG {f : Nat} {x : AX} {xs : List AX} {caps ds : List D} {r : D} (hx : aE T x = .d (.func f caps)) (ha : aN σ (xs.map (aE T)) ds) (hp : PCall P f (ds ++ caps) r) (k : ba P l ⟨br T dst (.d r), σ, n⟩ K) : ba P (⟨dst, .callv false x xs, none⟩ :: l) ⟨T, σ, n⟩ K :=
  ⟨f, caps, ds, r, hx, ha, hp, k⟩
theorem aN.nil' : aN σ [] [] := trivial
theorem aC {vs : List V} {d : D} {ds : List D} (h : aN σ vs ds) : aN σ (.d d :: vs) (d :: ds) := ⟨⟨d, rfl, .refl _⟩, h⟩
theorem aN.nl {vs : List V} {k : Option Nat} {ds : List D} (h : aN σ vs ds) : aN σ (.d .nils :: vs) (.vec k [] :: ds) := ⟨⟨.nils, rfl, .nils k⟩, h⟩
theorem aN.lc {vs : List V} {id len : Nat} {k : Option Nat} {els : List D} {ds : List D} (hid : σ id = some (.lst false k els)) (hl : len = els.length) (h : aN σ vs ds) : aN σ (.loc id 0 len :: vs) (.vec k els :: ds) := by
  refine ⟨⟨.vec k els, ?_, .refl _⟩, h⟩
  subst hl
  simp [dx, dM, hid]
theorem m9 {vs : List V} {v : V} {d d0 : D} {ds : List D} (hv : dx σ v = some d0) (hd : dC d0 d) (h : aN σ vs ds) : aN σ (v :: vs) (d :: ds) := ⟨⟨d0, hv, hd⟩, h⟩
theorem tv {f : Nat} {af : bG} (hc : gV P f af = true) {vals : List V} {vs : Array Value} (hl : vals.length ≤ af.n) (hs : aQ A μ σ w) (hfr : ∀ id, n ≤ id → μ id = none) (hlen : vals.length = vs.size)
    (hrel : ∀ (i : Nat) x v, vals[i]? = some x → vs[i]? = some v → aJ μ (au A μ σ) w x v) {R : S → List V → Prop}
    (h : bD P af.n na af.code (fun e s' => (e = .normal ∨ e = .ret) ∧ ∃ rs, eS s' af.res = some rs ∧ R s' rs) ⟨jz vals, σ, n⟩) :
    Calls P f vs w fun e w' => ∃ cv μ' s' rs, e = .returned cv ∧ R s' rs ∧ aJ μ' (au A μ' s'.σ) w' (iu rs) cv ∧ aQ A μ' s'.σ w' ∧ NG na μ σ w μ' s'.σ w' ∧ ∀ id, s'.n ≤ id → μ' id = none := by
  obtain ⟨h1, fn, c, h2, h3, h4, h5, h6⟩ := pA hc
  refine calls_of_wp h2 h3 ?_
  have hsim : jy af.n A μ ⟨jz vals, σ, n⟩ { tmps := vs ++ Array.replicate (fn.ntmps - vs.size) Go.undef, defers := [] } w := by
    refine ⟨⟨by simp; omega, rfl, fun i => ?_, hs⟩, hfr⟩
    simp only [jz]
    by_cases hi : i < vals.length
    · have e1 : vals[i]? = some vals[i] := by simp [hi]
      have e2 : vs[i]? = some (vs[i]'(by omega)) := by simp
      rw [Array.getD_eq_getD_getElem?, Array.getElem?_append_left (by omega), e1, e2]
      exact hrel i _ _ e1 e2
    · rw [List.getElem?_eq_none (by omega)]
      exact .d _ _ (.undef _)
  refine wp_mono (h c h6 A μ _ w hsim) fun e a' w' ⟨hp, s', μ', ⟨he, rs, hrs, hR⟩, hs', hg⟩ => ?_
  have fin : a'.defers = [] ∧ ∃ v, (results fn a'.tmps).run P w' = .ok v w' ∧ ∃ cv μ' s' rs, Ending.returned v = .returned cv ∧ R s' rs ∧ aJ μ' (au A μ' s'.σ) w' (iu rs) cv ∧ aQ A μ' s'.σ w' ∧ NG na μ σ w μ' s'.σ w' ∧ ∀ id, s'.n ≤ id → μ' id = none := by
    obtain ⟨cv, g1, g2⟩ := yF (T := s'.T) (n := s'.n) hs'.1.store hs'.1.tmps h5 hrs
    exact ⟨hs'.1.defers, cv, g1, cv, μ', s', rs, rfl, hR, g2, hs'.1.store, hg, hs'.2⟩
  rcases he with rfl | rfl
  · exact fin
  · exact fin
def FQ (res : List gl) (r : D) (e : Exit) (s' : S) : Prop := (e = .normal ∨ e = .ret) ∧ ∃ rs, eS s' res = some rs ∧ ∃ d0, lE s'.σ (iu rs) = some d0 ∧ dC d0 r
theorem PCall.introN {f : Nat} {af : bG} (hc : gV P f af = true) {ds : List D} {r : D} (hl : ds.length ≤ af.n)
    (h : bD P af.n 0 af.code (FQ af.res r) ⟨jz (ds.map V.d), fun _ => none, 0⟩) : PCall P f ds r := by
  refine ⟨(pA hc).1, fun A w vs halt hglob hlen hrel => ?_⟩
  have hs : aQ A (fun _ => none) (fun _ => none) w := { blks := fun _ _ h => (nomatch h), inj := fun _ _ _ _ _ _ _ h => (nomatch h), amb := fun _ _ _ _ h => (nomatch h), alt := halt, glob := hglob.mono fun b o v h1 h2 => ⟨h1, fun h => h.elim (fun ⟨_, _, h3, _⟩ => by cases h3) h2⟩ }
  have hfull : au A (fun _ => none) (fun _ => none) = A := by
    funext b o
    apply propext
    constructor
    · rintro (⟨id, blk, h1, _⟩ | h)
      · cases h1
      · exact h
    · exact .inr
  refine (tv (A := A) (μ := fun _ => none) (n := 0) hc (vals := ds.map V.d) (by simpa using hl) hs (fun _ _ => rfl) (by simpa using hlen) (fun i x v hx hv => ?_) h).mono fun e w' ⟨cv, μ', s', rs, he, ⟨d0, hR1, hR2⟩, hv', hs', hg, hfr'⟩ => ?_
  · rw [hfull]
    rw [List.getElem?_map] at hx
    cases hd : ds[i]? with
    | none => rw [hd] at hx; cases hx
    | some d => rw [hd] at hx; cases hx; exact .d _ _ (hrel i d v hd hv)
  · refine ⟨cv, he, (yH hs' hR1 hv').sub hR2, ⟨hg.os, hg.tape, hg.output, hg.size, fun b hb => hg.block b hb fun ⟨id, blk, k, h1, _⟩ => by cases h1⟩⟩
def SQ (res : List gl) (v : V) (bl : List (Nat × aP)) (n' : Nat) (e : Exit) (s' : S) : Prop := (e = .normal ∨ e = .ret) ∧ ∃ rs, eS s' res = some rs ∧ iu rs = v ∧ (∀ id blk, ag bl id = some blk → s'.σ id = some blk) ∧ s'.n = n'
theorem tx : ∀ {bl : List (Nat × aP)} {id : Nat}, id ∈ bl.map (·.1) → ∃ b, ag bl id = some b
  | [], _, h => by simp at h
  | (s, v) :: bl, id, h => by
    simp only [ag]
    by_cases e : id = s
    · exact ⟨v, by rw [if_pos e]⟩
    · rw [if_neg e]
      simp only [List.map_cons, List.mem_cons] at h
      exact tx (h.resolve_left e)
theorem bZ.introN {f : Nat} {af : bG} (hc : gV P f af = true) {vals : List V} {bl bl' : List (Nat × aP)} {v : V} (hl : vals.length ≤ af.n) (hdom : bl.map (·.1) = List.range n)
    (h : bD P af.n n af.code (SQ af.res v bl' n') ⟨jz vals, ag bl, n⟩) : bZ P f vals (ag bl) n v (ag bl') n' := by
  refine ⟨(pA hc).1, fun A μ w vs hs hfr hlen hrel => ?_⟩
  refine (tv hc hl hs hfr hlen hrel (R := fun s' rs => iu rs = v ∧ (∀ id blk, ag bl' id = some blk → s'.σ id = some blk) ∧ s'.n = n') h).mono fun e w' ⟨cv, μ', s', rs, he, ⟨hR1, hR2, hR3⟩, hv', hs', hg, hfr'⟩ => ?_
  subst hR1
  have hd := hs'.drop hR2
  have gd : aW μ' s'.σ w' μ' (ag bl') w' := aW.drop hR2
  have hg := hg.trans gd.ng
  refine ⟨cv, μ', he, gd.keepV hs'.alt hv', hd, ⟨hg.os, hg.tape, hg.output, hg.size, hg.block, hg.cells, hg.own, hg.ownB, fun id p hp => ?_⟩, fun id h => ?_⟩
  · have : id < n := by
      rcases Nat.lt_or_ge id n with h' | h'
      · exact h'
      · rw [hfr id h'] at hp; cases hp
    exact hg.grow id p this hp
  · have h1 : id < n' := by
      rcases Nat.lt_or_ge id n' with h' | h'
      · exact h'
      · exact (h (hfr' id (by omega))).elim
    rcases Nat.lt_or_ge id n with h' | h'
    · cases hm : μ id with
      | none =>
        have hm' : id ∈ bl.map (·.1) := by rw [hdom]; exact List.mem_range.2 h'
        obtain ⟨b, hb⟩ := tx hm'
        exact ((hs.blks id b hb).placed hm).elim
      | some p => exact .inl (by simp)
    · exact .inr ⟨h', h1⟩
def de (σ : aB) : List (Nat × aP) → Prop
  | [] => True
  | p :: l => σ p.1 = some p.2 ∧ de σ l
theorem de.sub : ∀ {bl : List (Nat × aP)}, de σ bl → ∀ id blk, ag bl id = some blk → σ id = some blk
  | [], _, id, blk, h => by cases h
  | (i, b) :: bl, h, id, blk, hb => by
    simp only [ag] at hb
    split at hb
    · rename_i e; subst e; cases hb; exact h.1
    · exact h.2.sub id blk hb
mutual
def V.ren (ρ : Nat → Nat) : V → V
  | .d x => .d x
  | .loc id off len => .loc (ρ id) off len
  | .ptr id i j => .ptr (ρ id) i j
  | .agg cs => .agg (iT ρ cs)
  | .tup vs => .tup (iT ρ vs)
  | .func f cap => .func f (iT ρ cap)
  | .iface t v => .iface t (v.ren ρ)
  | .mapr id => .mapr (ρ id)
  | .mref id => .mref (ρ id)
def iT (ρ : Nat → Nat) : List V → List V
  | [] => []
  | v :: l => v.ren ρ :: iT ρ l
end
theorem lH (ρ : Nat → Nat) : ∀ l : List V, iT ρ l = l.map (V.ren ρ)
  | [] => by simp [iT]
  | v :: l => by simp [iT, lH ρ l]
def aP.ren (ρ : Nat → Nat) : aP → aP
  | .lst m k els => .lst m k els
  | .var cs => .var (iT ρ cs)
  | .mp es => .mp es
theorem aJ.ren {ρ : Nat → Nat} {μ0 : Nat → Option bA} {O : Nat → Nat → Prop} (hμ : ∀ id p, μ id = some p → μ0 (ρ id) = some p) {x : V} {u : Value} (h : aJ μ O w x u) : aJ μ0 O w (x.ren ρ) u := by
  induction h with
  | d x v hd => exact .d x v hd
  | loc0 id off a h1 =>
    cases hp : μ id with
    | none => exact (h1 hp).elim
    | some p => exact .loc0 _ _ _ (by rw [hμ id p hp]; simp)
  | loc id off len b k cap h1 h2 h3 h4 => exact .loc _ _ _ b k cap (hμ _ _ h1) h2 h3 h4
  | ptr id i j b k h1 => exact .ptr _ _ _ b k (hμ _ _ h1)
  | agg vs cs hl _ ih =>
    simp only [V.ren, lH]
    refine .agg _ cs (by simpa using hl) fun i x v hx hv => ?_
    rw [List.getElem?_map] at hx
    cases hq : vs[i]? with
    | none => rw [hq] at hx; cases hx
    | some y => rw [hq] at hx; cases hx; exact ih i y v hq hv
  | tup vs cs hl _ ih =>
    simp only [V.ren, lH]
    refine .tup _ cs (by simpa using hl) fun i x v hx hv => ?_
    rw [List.getElem?_map] at hx
    cases hq : vs[i]? with
    | none => rw [hq] at hx; cases hx
    | some y => rw [hq] at hx; cases hx; exact ih i y v hq hv
  | func f vs cs hl _ ih =>
    simp only [V.ren, lH]
    refine .func f _ cs (by simpa using hl) fun i x v hx hv => ?_
    rw [List.getElem?_map] at hx
    cases hq : vs[i]? with
    | none => rw [hq] at hx; cases hx
    | some y => rw [hq] at hx; cases hx; exact ih i y v hq hv
  | iface t x v _ ih => exact .iface t _ v ih
  | nne id a c h1 => exact .nne _ a c h1
  | mref id b k h1 => exact .mref _ b k (hμ _ _ h1)
def up (rl : List Nat) (n id : Nat) : Nat := if id < rl.length then rn rl id else n + (id - rl.length)
def rem : List Nat → aB → aB
  | [], σ => σ
  | i :: l, σ => ai (rem l σ) i none
def e8 (ρ : Nat → Nat) : List (Nat × aP) → aB → aB
  | [], σ => σ
  | (i, b) :: l, σ => ai (e8 ρ l σ) (ρ i) (some (b.ren ρ))
theorem pE : ∀ (l : List Nat) (σ : aB) (i : Nat), rem l σ i = if i ∈ l then none else σ i
  | [], σ, i => by simp [rem]
  | j :: l, σ, i => by
    simp only [rem, yI, pE l σ i, List.mem_cons]
    by_cases e : i = j <;> simp [e]
theorem tz {ρ : Nat → Nat} : ∀ {l : List (Nat × aP)} {σ : aB} {i : Nat}, (∀ p ∈ l, ρ p.1 ≠ i) → e8 ρ l σ i = σ i
  | [], σ, i, _ => rfl
  | (j, b) :: l, σ, i, h => by
    simp only [e8]
    rw [bk _ _ (fun e => h (j, b) (by simp) e.symm)]
    exact tz fun p hp => h p (by simp [hp])
theorem tA {ρ : Nat → Nat} : ∀ {l : List (Nat × aP)} {σ : aB} {i : Nat} {blk : aP}, (∀ p ∈ l, ∀ q ∈ l, ρ p.1 = ρ q.1 → p.1 = q.1) → e8 ρ l σ i = some blk → (∃ j b, ρ j = i ∧ ag l j = some b ∧ blk = b.ren ρ) ∨ ((∀ p ∈ l, ρ p.1 ≠ i) ∧ σ i = some blk)
  | [], σ, i, blk, _, h => .inr ⟨fun p hp => by simp at hp, h⟩
  | (j, b) :: l, σ, i, blk, hinj, h => by
    simp only [e8] at h
    by_cases e : i = ρ j
    · subst e
      rw [bx] at h; cases h
      exact .inl ⟨j, b, rfl, by simp [ag], rfl⟩
    · rw [bk _ _ e] at h
      rcases tA (fun p hp q hq => hinj p (by simp [hp]) q (by simp [hq])) h with ⟨j', b', h1, h2, h3⟩ | ⟨h1, h2⟩
      · refine .inl ⟨j', b', h1, ?_, h3⟩
        simp only [ag]
        by_cases e2 : j' = j
        · subst e2; exact (e h1.symm).elim
        · rw [if_neg e2]; exact h2
      · refine .inr ⟨fun p hp => ?_, h2⟩
        rcases List.mem_cons.1 hp with rfl | hp
        · exact fun e' => e e'.symm
        · exact h1 p hp
end
end Go.AM
