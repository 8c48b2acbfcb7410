import Derived.Test.YtfjelgjfbjjopaaDoorAmN1
set_option linter.unusedVariables false
set_option linter.unusedSectionVars false
set_option linter.unusedSimpArgs false
namespace Go.AM
open Go Go.RowKit
variable [Glob]
section
variable {P : Program} {N na : Nat} {A : Nat → Nat → Prop} {μ μ' : Nat → Option b5} {T T' : Nat → V} {σ σ' : aV} {w w' : World} {a : Act} {n n' : Nat} {l : List ce} {dst : Option Nat} {op : bU} {K : S → Prop}
theorem step {v : V} {σ' : aV} {n' : Nat} (h : aX op (aW T) σ n = some (v, σ', n')) (k : bp P l ⟨bR T dst v, σ', n'⟩ K) : bp P (⟨dst, op, none⟩ :: l) ⟨T, σ, n⟩ K := by
  simp only [bp]
  unfold fR
  split
  · simp [aX] at h
  · simp [aX] at h
  · simp [aX] at h
  · simp [aX] at h
  · simp only [h]; exact k
theorem ub {g : Nat} {b c : Bool} (hg : T g = .d (.bool c)) (hb : c = b) (k : bp P (⟨dst, op, none⟩ :: l) ⟨T, σ, n⟩ K) : bp P (⟨dst, op, some (g, b)⟩ :: l) ⟨T, σ, n⟩ K := by
  subst hb
  simp only [bp] at k ⊢
  rw [hg]
  simpa [iW] using k
theorem uc {g : Nat} {b c : Bool} (hg : T g = .d (.bool c)) (hb : ¬ c = b) (k : bp P l ⟨bR T dst V.skip, σ, n⟩ K) : bp P (⟨dst, op, some (g, b)⟩ :: l) ⟨T, σ, n⟩ K := by
  simp only [bp]
  rw [hg]
  simpa [iW, hb] using k
theorem cK {g : Nat} {b : Bool} (hg : T g = V.skip) (k : bp P l ⟨bR T dst V.skip, σ, n⟩ K) : bp P (⟨dst, op, some (g, b)⟩ :: l) ⟨T, σ, n⟩ K := by
  simp only [bp]
  rw [hg]
  simpa [iW, V.skip] using k
theorem bp.nil' (k : K ⟨T, σ, n⟩) : bp P [] ⟨T, σ, n⟩ K := k
theorem bz {f : Nat} {xs : List AX} {ds : List D} {r : D} (ha : bb σ (xs.map (aW T)) ds) (hp : aN P f ds r) (k : bp P l ⟨bR T dst (.d r), σ, n⟩ K) : bp P (⟨dst, .call false f xs, none⟩ :: l) ⟨T, σ, n⟩ K :=
  ⟨ds, r, ha, hp, k⟩
theorem iC {f : Nat} {xs : List AX} {v : V} {σ' : aV} {n' : Nat} (hp : e8 P f (xs.map (aW T)) σ n v σ' n') (hn : n ≤ n') (k : bp P l ⟨bR T dst v, σ', n'⟩ K) : bp P (⟨dst, .call true f xs, none⟩ :: l) ⟨T, σ, n⟩ K :=
  ⟨v, σ', n', hp, hn, k⟩
theorem my {f : Nat} {x : AX} {xs : List AX} {caps ds : List D} {r : D} (hx : aW T x = .d (.func f caps)) (ha : bb σ (xs.map (aW T)) ds) (hp : aN P f (ds ++ caps) r) (k : bp P l ⟨bR T dst (.d r), σ, n⟩ K) : bp P (⟨dst, .callv false x xs, none⟩ :: l) ⟨T, σ, n⟩ K :=
  ⟨f, caps, ds, r, hx, ha, hp, k⟩
theorem bb.nil' : bb σ [] [] := trivial
theorem aD {vs : List V} {d : D} {ds : List D} (h : bb σ vs ds) : bb σ (.d d :: vs) (d :: ds) := ⟨⟨d, rfl, .refl _⟩, h⟩
theorem bb.nl {vs : List V} {k : Option Nat} {ds : List D} (h : bb σ vs ds) : bb σ (.d .nils :: vs) (.vec k [] :: ds) := ⟨⟨.nils, rfl, .nils k⟩, h⟩
theorem bb.lc {vs : List V} {id len : Nat} {k : Option Nat} {els : List D} {ds : List D} (hid : σ id = some (.lst false k els)) (hl : len = els.length) (h : bb σ vs ds) : bb σ (.loc id 0 len :: vs) (.vec k els :: ds) := by
  refine ⟨⟨.vec k els, ?_, .refl _⟩, h⟩
  subst hl
  simp [dO, eC, hid]
theorem kc {vs : List V} {v : V} {d d0 : D} {ds : List D} (hv : dO σ v = some d0) (hd : dP d0 d) (h : bb σ vs ds) : bb σ (v :: vs) (d :: ds) := ⟨⟨d0, hv, hd⟩, h⟩
theorem ud {f : Nat} {af : bQ} (hc : iB P f af = true) {vals : List V} {vs : Array Value} (hl : vals.length ≤ af.n) (hs : bA A μ σ w) (hfr : ∀ id, n ≤ id → μ id = none) (hlen : vals.length = vs.size)
    (hrel : ∀ (i : Nat) x v, vals[i]? = some x → vs[i]? = some v → be μ (aF A μ σ) w x v) {R : S → List V → Prop}
    (h : b8 P af.n na af.code (fun e s' => (e = .normal ∨ e = .ret) ∧ ∃ rs, fy s' af.res = some rs ∧ R s' rs) ⟨ka vals, σ, n⟩) :
    Calls P f vs w fun e w' => ∃ cv μ' s' rs, e = .returned cv ∧ R s' rs ∧ be μ' (aF A μ' s'.σ) w' (iZ rs) cv ∧ bA A μ' s'.σ w' ∧ NG na μ σ w μ' s'.σ w' ∧ ∀ id, s'.n ≤ id → μ' id = none := by
  obtain ⟨h1, fn, c, h2, h3, h4, h5, h6⟩ := qw hc
  refine calls_of_wp h2 h3 ?_
  have hsim : j9 af.n A μ ⟨ka vals, σ, n⟩ { tmps := vs ++ Array.replicate (fn.ntmps - vs.size) Go.undef, defers := [] } w := by
    refine ⟨⟨by simp; omega, rfl, fun i => ?_, hs⟩, hfr⟩
    simp only [ka]
    by_cases hi : i < vals.length
    · have e1 : vals[i]? = some vals[i] := by simp [hi]
      have e2 : vs[i]? = some (vs[i]'(by omega)) := by simp
      rw [Array.getD_eq_getD_getElem?, Array.getElem?_append_left (by omega), e1, e2]
      exact hrel i _ _ e1 e2
    · rw [List.getElem?_eq_none (by omega)]
      exact .d _ _ (.undef _)
  refine wp_mono (h c h6 A μ _ w hsim) fun e a' w' ⟨hp, s', μ', ⟨he, rs, hrs, hR⟩, hs', hg⟩ => ?_
  have fin : a'.defers = [] ∧ ∃ v, (results fn a'.tmps).run P w' = .ok v w' ∧ ∃ cv μ' s' rs, Ending.returned v = .returned cv ∧ R s' rs ∧ be μ' (aF A μ' s'.σ) w' (iZ rs) cv ∧ bA A μ' s'.σ w' ∧ NG na μ σ w μ' s'.σ w' ∧ ∀ id, s'.n ≤ id → μ' id = none := by
    obtain ⟨cv, g1, g2⟩ := zw (T := s'.T) (n := s'.n) hs'.1.store hs'.1.tmps h5 hrs
    exact ⟨hs'.1.defers, cv, g1, cv, μ', s', rs, rfl, hR, g2, hs'.1.store, hg, hs'.2⟩
  rcases he with rfl | rfl
  · exact fin
  · exact fin
def FQ (res : List gN) (r : D) (e : Exit) (s' : S) : Prop := (e = .normal ∨ e = .ret) ∧ ∃ rs, fy s' res = some rs ∧ ∃ d0, mx s'.σ (iZ rs) = some d0 ∧ dP d0 r
theorem aN.introN {f : Nat} {af : bQ} (hc : iB P f af = true) {ds : List D} {r : D} (hl : ds.length ≤ af.n)
    (h : b8 P af.n 0 af.code (FQ af.res r) ⟨ka (ds.map V.d), fun _ => none, 0⟩) : aN P f ds r := by
  refine ⟨(qw hc).1, fun A w vs halt hglob hlen hrel => ?_⟩
  have hs : bA A (fun _ => none) (fun _ => none) w := { blks := fun _ _ h => (nomatch h), inj := fun _ _ _ _ _ _ _ h => (nomatch h), amb := fun _ _ _ _ h => (nomatch h), alt := halt, glob := hglob.mono fun b o v h1 h2 => ⟨h1, fun h => h.elim (fun ⟨_, _, h3, _⟩ => by cases h3) h2⟩ }
  have hfull : aF A (fun _ => none) (fun _ => none) = A := by
    funext b o
    apply propext
    constructor
    · rintro (⟨id, blk, h1, _⟩ | h)
      · cases h1
      · exact h
    · exact .inr
  refine (ud (A := A) (μ := fun _ => none) (n := 0) hc (vals := ds.map V.d) (by simpa using hl) hs (fun _ _ => rfl) (by simpa using hlen) (fun i x v hx hv => ?_) h).mono fun e w' ⟨cv, μ', s', rs, he, ⟨d0, hR1, hR2⟩, hv', hs', hg, hfr'⟩ => ?_
  · rw [hfull]
    rw [List.getElem?_map] at hx
    cases hd : ds[i]? with
    | none => rw [hd] at hx; cases hx
    | some d => rw [hd] at hx; cases hx; exact .d _ _ (hrel i d v hd hv)
  · refine ⟨cv, he, (zA hs' hR1 hv').sub hR2, ⟨hg.os, hg.tape, hg.output, hg.size, fun b hb => hg.block b hb fun ⟨id, blk, k, h1, _⟩ => by cases h1⟩⟩
def SQ (res : List gN) (v : V) (bl : List (Nat × bv)) (n' : Nat) (e : Exit) (s' : S) : Prop := (e = .normal ∨ e = .ret) ∧ ∃ rs, fy s' res = some rs ∧ iZ rs = v ∧ (∀ id blk, ai bl id = some blk → s'.σ id = some blk) ∧ s'.n = n'
theorem uf : ∀ {bl : List (Nat × bv)} {id : Nat}, id ∈ bl.map (·.1) → ∃ b, ai bl id = some b
  | [], _, h => by simp at h
  | (s, v) :: bl, id, h => by
    simp only [ai]
    by_cases e : id = s
    · exact ⟨v, by rw [if_pos e]⟩
    · rw [if_neg e]
      simp only [List.map_cons, List.mem_cons] at h
      exact uf (h.resolve_left e)
theorem cJ.introN {f : Nat} {af : bQ} (hc : iB P f af = true) {vals : List V} {bl bl' : List (Nat × bv)} {v : V} (hl : vals.length ≤ af.n) (hdom : bl.map (·.1) = List.range n)
    (h : b8 P af.n n af.code (SQ af.res v bl' n') ⟨ka vals, ai bl, n⟩) : cJ P f vals (ai bl) n v (ai bl') n' := by
  refine ⟨(qw hc).1, fun A μ w vs hs hfr hlen hrel => ?_⟩
  refine (ud hc hl hs hfr hlen hrel (R := fun s' rs => iZ rs = v ∧ (∀ id blk, ai bl' id = some blk → s'.σ id = some blk) ∧ s'.n = n') h).mono fun e w' ⟨cv, μ', s', rs, he, ⟨hR1, hR2, hR3⟩, hv', hs', hg, hfr'⟩ => ?_
  subst hR1
  have hd := hs'.drop hR2
  have gd : bE μ' s'.σ w' μ' (ai bl') w' := bE.drop hR2
  have hg := hg.trans gd.ng
  refine ⟨cv, μ', he, gd.keepV hs'.alt hv', hd, ⟨hg.os, hg.tape, hg.output, hg.size, hg.block, hg.cells, hg.own, hg.ownB, fun id p hp => ?_⟩, fun id h => ?_⟩
  · have : id < n := by
      rcases Nat.lt_or_ge id n with h' | h'
      · exact h'
      · rw [hfr id h'] at hp; cases hp
    exact hg.grow id p this hp
  · have h1 : id < n' := by
      rcases Nat.lt_or_ge id n' with h' | h'
      · exact h'
      · exact (h (hfr' id (by omega))).elim
    rcases Nat.lt_or_ge id n with h' | h'
    · cases hm : μ id with
      | none =>
        have hm' : id ∈ bl.map (·.1) := by rw [hdom]; exact List.mem_range.2 h'
        obtain ⟨b, hb⟩ := uf hm'
        exact ((hs.blks id b hb).placed hm).elim
      | some p => exact .inl (by simp)
    · exact .inr ⟨h', h1⟩
def dC (σ : aV) : List (Nat × bv) → Prop
  | [] => True
  | p :: l => σ p.1 = some p.2 ∧ dC σ l
theorem dC.sub : ∀ {bl : List (Nat × bv)}, dC σ bl → ∀ id blk, ai bl id = some blk → σ id = some blk
  | [], _, id, blk, h => by cases h
  | (i, b) :: bl, h, id, blk, hb => by
    simp only [ai] at hb
    split at hb
    · rename_i e; subst e; cases hb; exact h.1
    · exact h.2.sub id blk hb
mutual
def V.ren (ρ : Nat → Nat) : V → V
  | .d x => .d x
  | .loc id off len => .loc (ρ id) off len
  | .ptr id i j => .ptr (ρ id) i j
  | .agg cs => .agg (jx ρ cs)
  | .tup vs => .tup (jx ρ vs)
  | .func f cap => .func f (jx ρ cap)
  | .iface t v => .iface t (v.ren ρ)
  | .mapr id => .mapr (ρ id)
  | .mref id => .mref (ρ id)
def jx (ρ : Nat → Nat) : List V → List V
  | [] => []
  | v :: l => v.ren ρ :: jx ρ l
end
theorem mz (ρ : Nat → Nat) : ∀ l : List V, jx ρ l = l.map (V.ren ρ)
  | [] => by simp [jx]
  | v :: l => by simp [jx, mz ρ l]
def bv.ren (ρ : Nat → Nat) : bv → bv
  | .lst m k els => .lst m k els
  | .var cs => .var (jx ρ cs)
  | .mp es => .mp es
theorem be.ren {ρ : Nat → Nat} {μ0 : Nat → Option b5} {O : Nat → Nat → Prop} (hμ : ∀ id p, μ id = some p → μ0 (ρ id) = some p) {x : V} {u : Value} (h : be μ O w x u) : be μ0 O w (x.ren ρ) u := by
  induction h with
  | d x v hd => exact .d x v hd
  | loc0 id off a h1 =>
    cases hp : μ id with
    | none => exact (h1 hp).elim
    | some p => exact .loc0 _ _ _ (by rw [hμ id p hp]; simp)
  | loc id off len b k cap h1 h2 h3 h4 => exact .loc _ _ _ b k cap (hμ _ _ h1) h2 h3 h4
  | ptr id i j b k h1 => exact .ptr _ _ _ b k (hμ _ _ h1)
  | agg vs cs hl _ ih =>
    simp only [V.ren, mz]
    refine .agg _ cs (by simpa using hl) fun i x v hx hv => ?_
    rw [List.getElem?_map] at hx
    cases hq : vs[i]? with
    | none => rw [hq] at hx; cases hx
    | some y => rw [hq] at hx; cases hx; exact ih i y v hq hv
  | tup vs cs hl _ ih =>
    simp only [V.ren, mz]
    refine .tup _ cs (by simpa using hl) fun i x v hx hv => ?_
    rw [List.getElem?_map] at hx
    cases hq : vs[i]? with
    | none => rw [hq] at hx; cases hx
    | some y => rw [hq] at hx; cases hx; exact ih i y v hq hv
  | func f vs cs hl _ ih =>
    simp only [V.ren, mz]
    refine .func f _ cs (by simpa using hl) fun i x v hx hv => ?_
    rw [List.getElem?_map] at hx
    cases hq : vs[i]? with
    | none => rw [hq] at hx; cases hx
    | some y => rw [hq] at hx; cases hx; exact ih i y v hq hv
  | iface t x v _ ih => exact .iface t _ v ih
  | nne id a c h1 => exact .nne _ a c h1
  | mref id b k h1 => exact .mref _ b k (hμ _ _ h1)
def up (rl : List Nat) (n id : Nat) : Nat := if id < rl.length then rn rl id else n + (id - rl.length)
def rem : List Nat → aV → aV
  | [], σ => σ
  | i :: l, σ => aq (rem l σ) i none
def fG (ρ : Nat → Nat) : List (Nat × bv) → aV → aV
  | [], σ => σ
  | (i, b) :: l, σ => aq (fG ρ l σ) (ρ i) (some (b.ren ρ))
theorem qz : ∀ (l : List Nat) (σ : aV) (i : Nat), rem l σ i = if i ∈ l then none else σ i
  | [], σ, i => by simp [rem]
  | j :: l, σ, i => by
    simp only [rem, zB, qz l σ i, List.mem_cons]
    by_cases e : i = j <;> simp [e]
theorem ug {ρ : Nat → Nat} : ∀ {l : List (Nat × bv)} {σ : aV} {i : Nat}, (∀ p ∈ l, ρ p.1 ≠ i) → fG ρ l σ i = σ i
  | [], σ, i, _ => rfl
  | (j, b) :: l, σ, i, h => by
    simp only [fG]
    rw [bK _ _ (fun e => h (j, b) (by simp) e.symm)]
    exact ug fun p hp => h p (by simp [hp])
theorem uh {ρ : Nat → Nat} : ∀ {l : List (Nat × bv)} {σ : aV} {i : Nat} {blk : bv}, (∀ p ∈ l, ∀ q ∈ l, ρ p.1 = ρ q.1 → p.1 = q.1) → fG ρ l σ i = some blk → (∃ j b, ρ j = i ∧ ai l j = some b ∧ blk = b.ren ρ) ∨ ((∀ p ∈ l, ρ p.1 ≠ i) ∧ σ i = some blk)
  | [], σ, i, blk, _, h => .inr ⟨fun p hp => by simp at hp, h⟩
  | (j, b) :: l, σ, i, blk, hinj, h => by
    simp only [fG] at h
    by_cases e : i = ρ j
    · subst e
      rw [bY] at h; cases h
      exact .inl ⟨j, b, rfl, by simp [ai], rfl⟩
    · rw [bK _ _ e] at h
      rcases uh (fun p hp q hq => hinj p (by simp [hp]) q (by simp [hq])) h with ⟨j', b', h1, h2, h3⟩ | ⟨h1, h2⟩
      · refine .inl ⟨j', b', h1, ?_, h3⟩
        simp only [ai]
        by_cases e2 : j' = j
        · subst e2; exact (e h1.symm).elim
        · rw [if_neg e2]; exact h2
      · refine .inr ⟨fun p hp => ?_, h2⟩
        rcases List.mem_cons.1 hp with rfl | hp
        · exact fun e' => e e'.symm
        · exact h1 p hp
end
end Go.AM
