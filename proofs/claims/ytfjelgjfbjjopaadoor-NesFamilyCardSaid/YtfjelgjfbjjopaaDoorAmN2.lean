import Derived.Test.YtfjelgjfbjjopaaDoorAmN1
set_option linter.unusedVariables false
set_option linter.unusedSectionVars false
set_option linter.unusedSimpArgs false
namespace Go.AM
open Go Go.RowKit
variable [Glob]
section
variable {P : Program} {N na : Nat} {A : Nat → Nat → Prop} {μ μ' : Nat → Option bF} {T T' : Nat → V} {σ σ' : aD} {w w' : World} {a : Act} {n n' : Nat} {l : List bJ} {dst : Option Nat} {op : bA} {K : S → Prop}
theorem step {v : V} {σ' : aD} {n' : Nat} (h : aF op (aG T) σ n = some (v, σ', n')) (k : bb P l ⟨bu T dst v, σ', n'⟩ K) : bb P (⟨dst, op, none⟩ :: l) ⟨T, σ, n⟩ K := by
  simp only [bb]
  unfold fA
  split
  · simp [aF] at h
  · simp [aF] at h
  · simp [aF] at h
  · simp [aF] at h
  · simp only [h]; exact k
theorem tG {g : Nat} {b c : Bool} (hg : T g = .d (.bool c)) (hb : c = b) (k : bb P (⟨dst, op, none⟩ :: l) ⟨T, σ, n⟩ K) : bb P (⟨dst, op, some (g, b)⟩ :: l) ⟨T, σ, n⟩ K := by
  subst hb
  simp only [bb] at k ⊢
  rw [hg]
  simpa [iH] using k
theorem tH {g : Nat} {b c : Bool} (hg : T g = .d (.bool c)) (hb : ¬ c = b) (k : bb P l ⟨bu T dst V.skip, σ, n⟩ K) : bb P (⟨dst, op, some (g, b)⟩ :: l) ⟨T, σ, n⟩ K := by
  simp only [bb]
  rw [hg]
  simpa [iH, hb] using k
theorem cT {g : Nat} {b : Bool} (hg : T g = V.skip) (k : bb P l ⟨bu T dst V.skip, σ, n⟩ K) : bb P (⟨dst, op, some (g, b)⟩ :: l) ⟨T, σ, n⟩ K := by
  simp only [bb]
  rw [hg]
  simpa [iH, V.skip] using k
theorem bb.nil' (k : K ⟨T, σ, n⟩) : bb P [] ⟨T, σ, n⟩ K := k
theorem bD {f : Nat} {xs : List AX} {ds : List D} {r : D} (ha : aQ σ (xs.map (aG T)) ds) (hp : PCall P f ds r) (k : bb P l ⟨bu T dst (.d r), σ, n⟩ K) : bb P (⟨dst, .call false f xs, none⟩ :: l) ⟨T, σ, n⟩ K :=
  ⟨ds, r, ha, hp, k⟩
theorem hZ {f : Nat} {xs : List AX} {v : V} {σ' : aD} {n' : Nat} (hp : eI P f (xs.map (aG T)) σ n v σ' n') (hn : n ≤ n') (k : bb P l ⟨bu T dst v, σ', n'⟩ K) : bb P (⟨dst, .call true f xs, none⟩ :: l) ⟨T, σ, n⟩ K :=
  ⟨v, σ', n', hp, hn, k⟩
theorem lW {f : Nat} {x : AX} {xs : List AX} {caps ds : List D} {r : D} (hx : aG T x = .d (.func f caps)) (ha : aQ σ (xs.map (aG T)) ds) (hp : PCall P f (ds ++ caps) r) (k : bb P l ⟨bu T dst (.d r), σ, n⟩ K) : bb P (⟨dst, .callv false x xs, none⟩ :: l) ⟨T, σ, n⟩ K :=
  ⟨f, caps, ds, r, hx, ha, hp, k⟩
theorem aQ.nil' : aQ σ [] [] := trivial
theorem aK {vs : List V} {d : D} {ds : List D} (h : aQ σ vs ds) : aQ σ (.d d :: vs) (d :: ds) := ⟨⟨d, rfl, .refl _⟩, h⟩
theorem aQ.nl {vs : List V} {k : Option Nat} {ds : List D} (h : aQ σ vs ds) : aQ σ (.d .nils :: vs) (.vec k [] :: ds) := ⟨⟨.nils, rfl, .nils k⟩, h⟩
theorem aQ.lc {vs : List V} {id len : Nat} {k : Option Nat} {els : List D} {ds : List D} (hid : σ id = some (.lst false k els)) (hl : len = els.length) (h : aQ σ vs ds) : aQ σ (.loc id 0 len :: vs) (.vec k els :: ds) := by
  refine ⟨⟨.vec k els, ?_, .refl _⟩, h⟩
  subst hl
  simp [dI, dX, hid]
theorem nz {vs : List V} {v : V} {d d0 : D} {ds : List D} (hv : dI σ v = some d0) (hd : dM d0 d) (h : aQ σ vs ds) : aQ σ (v :: vs) (d :: ds) := ⟨⟨d0, hv, hd⟩, h⟩
theorem tI {f : Nat} {af : bQ} (hc : hY P f af = true) {vals : List V} {vs : Array Value} (hl : vals.length ≤ af.n) (hs : aP A μ σ w) (hfr : ∀ id, n ≤ id → μ id = none) (hlen : vals.length = vs.size)
    (hrel : ∀ (i : Nat) x v, vals[i]? = some x → vs[i]? = some v → aJ μ (ax A μ σ) w x v) {R : S → List V → Prop}
    (h : bH P af.n na af.code (fun e s' => (e = .normal ∨ e = .ret) ∧ ∃ rs, fd s' af.res = some rs ∧ R s' rs) ⟨jQ vals, σ, n⟩) :
    Calls P f vs w fun e w' => ∃ cv μ' s' rs, e = .returned cv ∧ R s' rs ∧ aJ μ' (ax A μ' s'.σ) w' (iK rs) cv ∧ aP A μ' s'.σ w' ∧ NG na μ σ w μ' s'.σ w' ∧ ∀ id, s'.n ≤ id → μ' id = none := by
  obtain ⟨h1, fn, c, h2, h3, h4, h5, h6⟩ := pN hc
  refine calls_of_wp h2 h3 ?_
  have hsim : jP af.n A μ ⟨jQ vals, σ, n⟩ { tmps := vs ++ Array.replicate (fn.ntmps - vs.size) Go.undef, defers := [] } w := by
    refine ⟨⟨by simp; omega, rfl, fun i => ?_, hs⟩, hfr⟩
    simp only [jQ]
    by_cases hi : i < vals.length
    · have e1 : vals[i]? = some vals[i] := by simp [hi]
      have e2 : vs[i]? = some (vs[i]'(by omega)) := by simp
      rw [Array.getD_eq_getD_getElem?, Array.getElem?_append_left (by omega), e1, e2]
      exact hrel i _ _ e1 e2
    · rw [List.getElem?_eq_none (by omega)]
      exact .d _ _ (.undef _)
  refine wp_mono (h c h6 A μ _ w hsim) fun e a' w' ⟨hp, s', μ', ⟨he, rs, hrs, hR⟩, hs', hg⟩ => ?_
  have fin : a'.defers = [] ∧ ∃ v, (results fn a'.tmps).run P w' = .ok v w' ∧ ∃ cv μ' s' rs, Ending.returned v = .returned cv ∧ R s' rs ∧ aJ μ' (ax A μ' s'.σ) w' (iK rs) cv ∧ aP A μ' s'.σ w' ∧ NG na μ σ w μ' s'.σ w' ∧ ∀ id, s'.n ≤ id → μ' id = none := by
    obtain ⟨cv, g1, g2⟩ := yM (T := s'.T) (n := s'.n) hs'.1.store hs'.1.tmps h5 hrs
    exact ⟨hs'.1.defers, cv, g1, cv, μ', s', rs, rfl, hR, g2, hs'.1.store, hg, hs'.2⟩
  rcases he with rfl | rfl
  · exact fin
  · exact fin
def FQ (res : List gF) (r : D) (e : Exit) (s' : S) : Prop := (e = .normal ∨ e = .ret) ∧ ∃ rs, fd s' res = some rs ∧ ∃ d0, lU s'.σ (iK rs) = some d0 ∧ dM d0 r
theorem PCall.introN {f : Nat} {af : bQ} (hc : hY P f af = true) {ds : List D} {r : D} (hl : ds.length ≤ af.n)
    (h : bH P af.n 0 af.code (FQ af.res r) ⟨jQ (ds.map V.d), fun _ => none, 0⟩) : PCall P f ds r := by
  refine ⟨(pN hc).1, fun A w vs halt hglob hlen hrel => ?_⟩
  have hs : aP A (fun _ => none) (fun _ => none) w := { blks := fun _ _ h => (nomatch h), inj := fun _ _ _ _ _ _ _ h => (nomatch h), amb := fun _ _ _ _ h => (nomatch h), alt := halt, glob := hglob.mono fun b o v h1 h2 => ⟨h1, fun h => h.elim (fun ⟨_, _, h3, _⟩ => by cases h3) h2⟩ }
  have hfull : ax A (fun _ => none) (fun _ => none) = A := by
    funext b o
    apply propext
    constructor
    · rintro (⟨id, blk, h1, _⟩ | h)
      · cases h1
      · exact h
    · exact .inr
  refine (tI (A := A) (μ := fun _ => none) (n := 0) hc (vals := ds.map V.d) (by simpa using hl) hs (fun _ _ => rfl) (by simpa using hlen) (fun i x v hx hv => ?_) h).mono fun e w' ⟨cv, μ', s', rs, he, ⟨d0, hR1, hR2⟩, hv', hs', hg, hfr'⟩ => ?_
  · rw [hfull]
    rw [List.getElem?_map] at hx
    cases hd : ds[i]? with
    | none => rw [hd] at hx; cases hx
    | some d => rw [hd] at hx; cases hx; exact .d _ _ (hrel i d v hd hv)
  · refine ⟨cv, he, (yO hs' hR1 hv').sub hR2, ⟨hg.os, hg.tape, hg.output, hg.size, fun b hb => hg.block b hb fun ⟨id, blk, k, h1, _⟩ => by cases h1⟩⟩
def SQ (res : List gF) (v : V) (bl : List (Nat × aS)) (n' : Nat) (e : Exit) (s' : S) : Prop := (e = .normal ∨ e = .ret) ∧ ∃ rs, fd s' res = some rs ∧ iK rs = v ∧ (∀ id blk, ah bl id = some blk → s'.σ id = some blk) ∧ s'.n = n'
theorem tK : ∀ {bl : List (Nat × aS)} {id : Nat}, id ∈ bl.map (·.1) → ∃ b, ah bl id = some b
  | [], _, h => by simp at h
  | (s, v) :: bl, id, h => by
    simp only [ah]
    by_cases e : id = s
    · exact ⟨v, by rw [if_pos e]⟩
    · rw [if_neg e]
      simp only [List.map_cons, List.mem_cons] at h
      exact tK (h.resolve_left e)
theorem b8.introN {f : Nat} {af : bQ} (hc : hY P f af = true) {vals : List V} {bl bl' : List (Nat × aS)} {v : V} (hl : vals.length ≤ af.n) (hdom : bl.map (·.1) = List.range n)
    (h : bH P af.n n af.code (SQ af.res v bl' n') ⟨jQ vals, ah bl, n⟩) : b8 P f vals (ah bl) n v (ah bl') n' := by
  refine ⟨(pN hc).1, fun A μ w vs hs hfr hlen hrel => ?_⟩
  refine (tI hc hl hs hfr hlen hrel (R := fun s' rs => iK rs = v ∧ (∀ id blk, ah bl' id = some blk → s'.σ id = some blk) ∧ s'.n = n') h).mono fun e w' ⟨cv, μ', s', rs, he, ⟨hR1, hR2, hR3⟩, hv', hs', hg, hfr'⟩ => ?_
  subst hR1
  have hd := hs'.drop hR2
  have gd : aY μ' s'.σ w' μ' (ah bl') w' := aY.drop hR2
  have hg := hg.trans gd.ng
  refine ⟨cv, μ', he, gd.keepV hs'.alt hv', hd, ⟨hg.os, hg.tape, hg.output, hg.size, hg.block, hg.cells, hg.own, hg.ownB, fun id p hp => ?_⟩, fun id h => ?_⟩
  · have : id < n := by
      rcases Nat.lt_or_ge id n with h' | h'
      · exact h'
      · rw [hfr id h'] at hp; cases hp
    exact hg.grow id p this hp
  · have h1 : id < n' := by
      rcases Nat.lt_or_ge id n' with h' | h'
      · exact h'
      · exact (h (hfr' id (by omega))).elim
    rcases Nat.lt_or_ge id n with h' | h'
    · cases hm : μ id with
      | none =>
        have hm' : id ∈ bl.map (·.1) := by rw [hdom]; exact List.mem_range.2 h'
        obtain ⟨b, hb⟩ := tK hm'
        exact ((hs.blks id b hb).placed hm).elim
      | some p => exact .inl (by simp)
    · exact .inr ⟨h', h1⟩
def dm (σ : aD) : List (Nat × aS) → Prop
  | [] => True
  | p :: l => σ p.1 = some p.2 ∧ dm σ l
theorem dm.sub : ∀ {bl : List (Nat × aS)}, dm σ bl → ∀ id blk, ah bl id = some blk → σ id = some blk
  | [], _, id, blk, h => by cases h
  | (i, b) :: bl, h, id, blk, hb => by
    simp only [ah] at hb
    split at hb
    · rename_i e; subst e; cases hb; exact h.1
    · exact h.2.sub id blk hb
mutual
def V.ren (ρ : Nat → Nat) : V → V
  | .d x => .d x
  | .loc id off len => .loc (ρ id) off len
  | .ptr id i j => .ptr (ρ id) i j
  | .agg cs => .agg (ji ρ cs)
  | .tup vs => .tup (ji ρ vs)
  | .func f cap => .func f (ji ρ cap)
  | .iface t v => .iface t (v.ren ρ)
  | .mapr id => .mapr (ρ id)
  | .mref id => .mref (ρ id)
def ji (ρ : Nat → Nat) : List V → List V
  | [] => []
  | v :: l => v.ren ρ :: ji ρ l
end
theorem lX (ρ : Nat → Nat) : ∀ l : List V, ji ρ l = l.map (V.ren ρ)
  | [] => by simp [ji]
  | v :: l => by simp [ji, lX ρ l]
def aS.ren (ρ : Nat → Nat) : aS → aS
  | .lst m k els => .lst m k els
  | .var cs => .var (ji ρ cs)
  | .mp es => .mp es
theorem aJ.ren {ρ : Nat → Nat} {μ0 : Nat → Option bF} {O : Nat → Nat → Prop} (hμ : ∀ id p, μ id = some p → μ0 (ρ id) = some p) {x : V} {u : Value} (h : aJ μ O w x u) : aJ μ0 O w (x.ren ρ) u := by
  induction h with
  | d x v hd => exact .d x v hd
  | loc0 id off a h1 =>
    cases hp : μ id with
    | none => exact (h1 hp).elim
    | some p => exact .loc0 _ _ _ (by rw [hμ id p hp]; simp)
  | loc id off len b k cap h1 h2 h3 h4 => exact .loc _ _ _ b k cap (hμ _ _ h1) h2 h3 h4
  | ptr id i j b k h1 => exact .ptr _ _ _ b k (hμ _ _ h1)
  | agg vs cs hl _ ih =>
    simp only [V.ren, lX]
    refine .agg _ cs (by simpa using hl) fun i x v hx hv => ?_
    rw [List.getElem?_map] at hx
    cases hq : vs[i]? with
    | none => rw [hq] at hx; cases hx
    | some y => rw [hq] at hx; cases hx; exact ih i y v hq hv
  | tup vs cs hl _ ih =>
    simp only [V.ren, lX]
    refine .tup _ cs (by simpa using hl) fun i x v hx hv => ?_
    rw [List.getElem?_map] at hx
    cases hq : vs[i]? with
    | none => rw [hq] at hx; cases hx
    | some y => rw [hq] at hx; cases hx; exact ih i y v hq hv
  | func f vs cs hl _ ih =>
    simp only [V.ren, lX]
    refine .func f _ cs (by simpa using hl) fun i x v hx hv => ?_
    rw [List.getElem?_map] at hx
    cases hq : vs[i]? with
    | none => rw [hq] at hx; cases hx
    | some y => rw [hq] at hx; cases hx; exact ih i y v hq hv
  | iface t x v _ ih => exact .iface t _ v ih
  | nne id a c h1 => exact .nne _ a c h1
  | mref id b k h1 => exact .mref _ b k (hμ _ _ h1)
def up (rl : List Nat) (n id : Nat) : Nat := if id < rl.length then rn rl id else n + (id - rl.length)
def rem : List Nat → aD → aD
  | [], σ => σ
  | i :: l, σ => aj (rem l σ) i none
def fk (ρ : Nat → Nat) : List (Nat × aS) → aD → aD
  | [], σ => σ
  | (i, b) :: l, σ => aj (fk ρ l σ) (ρ i) (some (b.ren ρ))
theorem pQ : ∀ (l : List Nat) (σ : aD) (i : Nat), rem l σ i = if i ∈ l then none else σ i
  | [], σ, i => by simp [rem]
  | j :: l, σ, i => by
    simp only [rem, yP, pQ l σ i, List.mem_cons]
    by_cases e : i = j <;> simp [e]
theorem tL {ρ : Nat → Nat} : ∀ {l : List (Nat × aS)} {σ : aD} {i : Nat}, (∀ p ∈ l, ρ p.1 ≠ i) → fk ρ l σ i = σ i
  | [], σ, i, _ => rfl
  | (j, b) :: l, σ, i, h => by
    simp only [fk]
    rw [bn _ _ (fun e => h (j, b) (by simp) e.symm)]
    exact tL fun p hp => h p (by simp [hp])
theorem tM {ρ : Nat → Nat} : ∀ {l : List (Nat × aS)} {σ : aD} {i : Nat} {blk : aS}, (∀ p ∈ l, ∀ q ∈ l, ρ p.1 = ρ q.1 → p.1 = q.1) → fk ρ l σ i = some blk → (∃ j b, ρ j = i ∧ ah l j = some b ∧ blk = b.ren ρ) ∨ ((∀ p ∈ l, ρ p.1 ≠ i) ∧ σ i = some blk)
  | [], σ, i, blk, _, h => .inr ⟨fun p hp => by simp at hp, h⟩
  | (j, b) :: l, σ, i, blk, hinj, h => by
    simp only [fk] at h
    by_cases e : i = ρ j
    · subst e
      rw [bC] at h; cases h
      exact .inl ⟨j, b, rfl, by simp [ah], rfl⟩
    · rw [bn _ _ e] at h
      rcases tM (fun p hp q hq => hinj p (by simp [hp]) q (by simp [hq])) h with ⟨j', b', h1, h2, h3⟩ | ⟨h1, h2⟩
      · refine .inl ⟨j', b', h1, ?_, h3⟩
        simp only [ah]
        by_cases e2 : j' = j
        · subst e2; exact (e h1.symm).elim
        · rw [if_neg e2]; exact h2
      · refine .inr ⟨fun p hp => ?_, h2⟩
        rcases List.mem_cons.1 hp with rfl | hp
        · exact fun e' => e e'.symm
        · exact h1 p hp
end
end Go.AM
