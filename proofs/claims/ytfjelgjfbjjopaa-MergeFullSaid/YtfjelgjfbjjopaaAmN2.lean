import Derived.Test.YtfjelgjfbjjopaaAmN1
/-
  AM, part 27: one operation at a time; functions; calls with a store, wherever its names lie.
-/
set_option linter.unusedVariables false
set_option linter.unusedSectionVars false
set_option linter.unusedSimpArgs false
namespace Go.AM
open Go Go.RowKit
variable [Glob]

section
variable {P : Program} {N na : Nat} {A : Nat → Nat → Prop} {μ μ' : Nat → Option Place} {T T' : Nat → V} {σ σ' : Store} {w w' : World} {a : Act} {n n' : Nat} {l : List AInstr} {dst : Option Nat} {op : AOp} {K : S → Prop}

/-! operations -/

theorem step {v : V} {σ' : Store} {n' : Nat} (h : stepV op (evT T) σ n = some (v, σ', n')) (k : RunOps P l ⟨putT T dst v, σ', n'⟩ K) : RunOps P (⟨dst, op, none⟩ :: l) ⟨T, σ, n⟩ K := by
  simp only [RunOps]
  unfold RunOp
  split
  · simp [stepV] at h
  · simp [stepV] at h
  · simp [stepV] at h
  · simp [stepV] at h
  · simp only [h]; exact k

/-- An operation whose guard says so. -/
theorem stepG {g : Nat} {b c : Bool} (hg : T g = .d (.bool c)) (hb : c = b) (k : RunOps P (⟨dst, op, none⟩ :: l) ⟨T, σ, n⟩ K) : RunOps P (⟨dst, op, some (g, b)⟩ :: l) ⟨T, σ, n⟩ K := by
  subst hb
  simp only [RunOps] at k ⊢
  rw [hg]
  simpa [guardV] using k

theorem stepX {g : Nat} {b c : Bool} (hg : T g = .d (.bool c)) (hb : ¬ c = b) (k : RunOps P l ⟨putT T dst V.skip, σ, n⟩ K) : RunOps P (⟨dst, op, some (g, b)⟩ :: l) ⟨T, σ, n⟩ K := by
  simp only [RunOps]
  rw [hg]
  simpa [guardV, hb] using k

theorem stepXX {g : Nat} {b : Bool} (hg : T g = V.skip) (k : RunOps P l ⟨putT T dst V.skip, σ, n⟩ K) : RunOps P (⟨dst, op, some (g, b)⟩ :: l) ⟨T, σ, n⟩ K := by
  simp only [RunOps]
  rw [hg]
  simpa [guardV, V.skip] using k

theorem RunOps.nil' (k : K ⟨T, σ, n⟩) : RunOps P [] ⟨T, σ, n⟩ K := k

/-- A call with data. -/
theorem stepC {f : Nat} {xs : List AX} {ds : List D} {r : D} (ha : ArgsOk σ (xs.map (evT T)) ds) (hp : PCall P f ds r) (k : RunOps P l ⟨putT T dst (.d r), σ, n⟩ K) : RunOps P (⟨dst, .call false f xs, none⟩ :: l) ⟨T, σ, n⟩ K :=
  ⟨ds, r, ha, hp, k⟩

/-- A call with a store. -/
theorem stepW {f : Nat} {xs : List AX} {v : V} {σ' : Store} {n' : Nat} (hp : SCallR P f (xs.map (evT T)) σ n v σ' n') (hn : n ≤ n') (k : RunOps P l ⟨putT T dst v, σ', n'⟩ K) : RunOps P (⟨dst, .call true f xs, none⟩ :: l) ⟨T, σ, n⟩ K :=
  ⟨v, σ', n', hp, hn, k⟩

/-- A function value is called with data. -/
theorem stepV' {f : Nat} {x : AX} {xs : List AX} {caps ds : List D} {r : D} (hx : evT T x = .d (.func f caps)) (ha : ArgsOk σ (xs.map (evT T)) ds) (hp : PCall P f (ds ++ caps) r) (k : RunOps P l ⟨putT T dst (.d r), σ, n⟩ K) : RunOps P (⟨dst, .callv false x xs, none⟩ :: l) ⟨T, σ, n⟩ K :=
  ⟨f, caps, ds, r, hx, ha, hp, k⟩

theorem ArgsOk.nil' : ArgsOk σ [] [] := trivial
theorem ArgsOk.dt {vs : List V} {d : D} {ds : List D} (h : ArgsOk σ vs ds) : ArgsOk σ (.d d :: vs) (d :: ds) := ⟨⟨d, rfl, .refl _⟩, h⟩
theorem ArgsOk.nl {vs : List V} {k : Option Nat} {ds : List D} (h : ArgsOk σ vs ds) : ArgsOk σ (.d .nils :: vs) (.vec k [] :: ds) := ⟨⟨.nils, rfl, .nils k⟩, h⟩
/-- A whole list, if nobody writes into it. -/
theorem ArgsOk.lc {vs : List V} {id len : Nat} {k : Option Nat} {els : List D} {ds : List D} (hid : σ id = some (.lst false k els)) (hl : len = els.length) (h : ArgsOk σ vs ds) : ArgsOk σ (.loc id 0 len :: vs) (.vec k els :: ds) := by
  refine ⟨⟨.vec k els, ?_, .refl _⟩, h⟩
  subst hl
  simp [viewA, viewC, hid]
theorem ArgsOk.vw {vs : List V} {v : V} {d d0 : D} {ds : List D} (hv : viewA σ v = some d0) (hd : Sub d0 d) (h : ArgsOk σ vs ds) : ArgsOk σ (v :: vs) (d :: ds) := ⟨⟨d0, hv, hd⟩, h⟩

/-! functions -/

theorem fn_runN {f : Nat} {af : AFn} (hc : chkFn P f af = true) {vals : List V} {vs : Array Value} (hl : vals.length ≤ af.n) (hs : StoreSim A μ σ w) (hfr : ∀ id, n ≤ id → μ id = none) (hlen : vals.length = vs.size)
    (hrel : ∀ (i : Nat) x v, vals[i]? = some x → vs[i]? = some v → VRel μ (full A μ σ) w x v) {R : S → List V → Prop}
    (h : NWp P af.n na af.code (fun e s' => (e = .normal ∨ e = .ret) ∧ ∃ rs, resVs s' af.res = some rs ∧ R s' rs) ⟨argT vals, σ, n⟩) :
    Calls P f vs w fun e w' => ∃ cv μ' s' rs, e = .returned cv ∧ R s' rs ∧ VRel μ' (full A μ' s'.σ) w' (packV rs) cv ∧ StoreSim A μ' s'.σ w' ∧ NG na μ σ w μ' s'.σ w' ∧ ∀ id, s'.n ≤ id → μ' id = none := by
  obtain ⟨h1, fn, c, h2, h3, h4, h5, h6⟩ := chkFn_spec hc
  refine calls_of_wp h2 h3 ?_
  have hsim : Sim af.n A μ ⟨argT vals, σ, n⟩ { tmps := vs ++ Array.replicate (fn.ntmps - vs.size) Go.undef, defers := [] } w := by
    refine ⟨⟨by simp; omega, rfl, fun i => ?_, hs⟩, hfr⟩
    simp only [argT]
    by_cases hi : i < vals.length
    · have e1 : vals[i]? = some vals[i] := by simp [hi]
      have e2 : vs[i]? = some (vs[i]'(by omega)) := by simp
      rw [Array.getD_eq_getD_getElem?, Array.getElem?_append_left (by omega), e1, e2]
      exact hrel i _ _ e1 e2
    · rw [List.getElem?_eq_none (by omega)]
      exact .d _ _ (.undef _)
  refine wp_mono (h c h6 A μ _ w hsim) fun e a' w' ⟨hp, s', μ', ⟨he, rs, hrs, hR⟩, hs', hg⟩ => ?_
  have fin : a'.defers = [] ∧ ∃ v, (results fn a'.tmps).run P w' = .ok v w' ∧ ∃ cv μ' s' rs, Ending.returned v = .returned cv ∧ R s' rs ∧ VRel μ' (full A μ' s'.σ) w' (packV rs) cv ∧ StoreSim A μ' s'.σ w' ∧ NG na μ σ w μ' s'.σ w' ∧ ∀ id, s'.n ≤ id → μ' id = none := by
    obtain ⟨cv, g1, g2⟩ := results_run (T := s'.T) (n := s'.n) hs'.1.store hs'.1.tmps h5 hrs
    exact ⟨hs'.1.defers, cv, g1, cv, μ', s', rs, rfl, hR, g2, hs'.1.store, hg, hs'.2⟩
  rcases he with rfl | rfl
  · exact fin
  · exact fin

/-- What a function that is called with data ends as. -/
def FQ (res : List ARes) (r : D) (e : Exit) (s' : S) : Prop := (e = .normal ∨ e = .ret) ∧ ∃ rs, resVs s' res = some rs ∧ ∃ d0, viewE s'.σ (packV rs) = some d0 ∧ Sub d0 r

theorem PCall.introN {f : Nat} {af : AFn} (hc : chkFn P f af = true) {ds : List D} {r : D} (hl : ds.length ≤ af.n)
    (h : NWp P af.n 0 af.code (FQ af.res r) ⟨argT (ds.map V.d), fun _ => none, 0⟩) : PCall P f ds r := by
  refine ⟨(chkFn_spec hc).1, fun A w vs halt hglob hlen hrel => ?_⟩
  have hs : StoreSim A (fun _ => none) (fun _ => none) w := { blks := fun _ _ h => (nomatch h), inj := fun _ _ _ _ _ _ _ h => (nomatch h), amb := fun _ _ _ _ h => (nomatch h), alt := halt, glob := hglob.mono fun b o v h1 h2 => ⟨h1, fun h => h.elim (fun ⟨_, _, h3, _⟩ => by cases h3) h2⟩ }
  have hfull : full A (fun _ => none) (fun _ => none) = A := by
    funext b o
    apply propext
    constructor
    · rintro (⟨id, blk, h1, _⟩ | h)
      · cases h1
      · exact h
    · exact .inr
  refine (fn_runN (A := A) (μ := fun _ => none) (n := 0) hc (vals := ds.map V.d) (by simpa using hl) hs (fun _ _ => rfl) (by simpa using hlen) (fun i x v hx hv => ?_) h).mono fun e w' ⟨cv, μ', s', rs, he, ⟨d0, hR1, hR2⟩, hv', hs', hg, hfr'⟩ => ?_
  · rw [hfull]
    rw [List.getElem?_map] at hx
    cases hd : ds[i]? with
    | none => rw [hd] at hx; cases hx
    | some d => rw [hd] at hx; cases hx; exact .d _ _ (hrel i d v hd hv)
  · refine ⟨cv, he, (viewE_sound hs' hR1 hv').sub hR2, ⟨hg.os, hg.tape, hg.output, hg.size, fun b hb => hg.block b hb fun ⟨id, blk, k, h1, _⟩ => by cases h1⟩⟩

/-- A function that is called with a store of its own: names 0, .., n-1. -/
def SQ (res : List ARes) (v : V) (bl : List (Nat × Blk)) (n' : Nat) (e : Exit) (s' : S) : Prop := (e = .normal ∨ e = .ret) ∧ ∃ rs, resVs s' res = some rs ∧ packV rs = v ∧ (∀ id blk, stab bl id = some blk → s'.σ id = some blk) ∧ s'.n = n'

theorem stab_mem : ∀ {bl : List (Nat × Blk)} {id : Nat}, id ∈ bl.map (·.1) → ∃ b, stab bl id = some b
  | [], _, h => by simp at h
  | (s, v) :: bl, id, h => by
    simp only [stab]
    by_cases e : id = s
    · exact ⟨v, by rw [if_pos e]⟩
    · rw [if_neg e]
      simp only [List.map_cons, List.mem_cons] at h
      exact stab_mem (h.resolve_left e)

theorem SCall.introN {f : Nat} {af : AFn} (hc : chkFn P f af = true) {vals : List V} {bl bl' : List (Nat × Blk)} {v : V} (hl : vals.length ≤ af.n) (hdom : bl.map (·.1) = List.range n)
    (h : NWp P af.n n af.code (SQ af.res v bl' n') ⟨argT vals, stab bl, n⟩) : SCall P f vals (stab bl) n v (stab bl') n' := by
  refine ⟨(chkFn_spec hc).1, fun A μ w vs hs hfr hlen hrel => ?_⟩
  refine (fn_runN hc hl hs hfr hlen hrel (R := fun s' rs => packV rs = v ∧ (∀ id blk, stab bl' id = some blk → s'.σ id = some blk) ∧ s'.n = n') h).mono fun e w' ⟨cv, μ', s', rs, he, ⟨hR1, hR2, hR3⟩, hv', hs', hg, hfr'⟩ => ?_
  subst hR1
  have hd := hs'.drop hR2
  have gd : Guar μ' s'.σ w' μ' (stab bl') w' := Guar.drop hR2
  have hg := hg.trans gd.ng
  refine ⟨cv, μ', he, gd.keepV hs'.alt hv', hd, ⟨hg.os, hg.tape, hg.output, hg.size, hg.block, hg.cells, hg.own, hg.ownB, fun id p hp => ?_⟩, fun id h => ?_⟩
  · have : id < n := by
      rcases Nat.lt_or_ge id n with h' | h'
      · exact h'
      · rw [hfr id h'] at hp; cases hp
    exact hg.grow id p this hp
  · have h1 : id < n' := by
      rcases Nat.lt_or_ge id n' with h' | h'
      · exact h'
      · exact (h (hfr' id (by omega))).elim
    rcases Nat.lt_or_ge id n with h' | h'
    · cases hm : μ id with
      | none =>
        have hm' : id ∈ bl.map (·.1) := by rw [hdom]; exact List.mem_range.2 h'
        obtain ⟨b, hb⟩ := stab_mem hm'
        exact ((hs.blks id b hb).placed hm).elim
      | some p => exact .inl (by simp)
    · exact .inr ⟨h', h1⟩

def AllS (σ : Store) : List (Nat × Blk) → Prop
  | [] => True
  | p :: l => σ p.1 = some p.2 ∧ AllS σ l

theorem AllS.sub : ∀ {bl : List (Nat × Blk)}, AllS σ bl → ∀ id blk, stab bl id = some blk → σ id = some blk
  | [], _, id, blk, h => by cases h
  | (i, b) :: bl, h, id, blk, hb => by
    simp only [stab] at hb
    split at hb
    · rename_i e; subst e; cases hb; exact h.1
    · exact h.2.sub id blk hb

/-! names given anew -/

mutual
def V.ren (ρ : Nat → Nat) : V → V
  | .d x => .d x
  | .loc id off len => .loc (ρ id) off len
  | .ptr id i j => .ptr (ρ id) i j
  | .agg cs => .agg (V.renL ρ cs)
  | .tup vs => .tup (V.renL ρ vs)
  | .func f cap => .func f (V.renL ρ cap)
  | .iface t v => .iface t (v.ren ρ)
  | .mapr id => .mapr (ρ id)
  | .mref id => .mref (ρ id)
def V.renL (ρ : Nat → Nat) : List V → List V
  | [] => []
  | v :: l => v.ren ρ :: V.renL ρ l
end

theorem V.renL_eq (ρ : Nat → Nat) : ∀ l : List V, V.renL ρ l = l.map (V.ren ρ)
  | [] => by simp [V.renL]
  | v :: l => by simp [V.renL, V.renL_eq ρ l]

def Blk.ren (ρ : Nat → Nat) : Blk → Blk
  | .lst m k els => .lst m k els
  | .var cs => .var (V.renL ρ cs)
  | .mp es => .mp es

theorem VRel.ren {ρ : Nat → Nat} {μ0 : Nat → Option Place} {O : Nat → Nat → Prop} (hμ : ∀ id p, μ id = some p → μ0 (ρ id) = some p) {x : V} {u : Value} (h : VRel μ O w x u) : VRel μ0 O w (x.ren ρ) u := by
  induction h with
  | d x v hd => exact .d x v hd
  | loc0 id off a h1 =>
    cases hp : μ id with
    | none => exact (h1 hp).elim
    | some p => exact .loc0 _ _ _ (by rw [hμ id p hp]; simp)
  | loc id off len b k cap h1 h2 h3 h4 => exact .loc _ _ _ b k cap (hμ _ _ h1) h2 h3 h4
  | ptr id i j b k h1 => exact .ptr _ _ _ b k (hμ _ _ h1)
  | agg vs cs hl _ ih =>
    simp only [V.ren, V.renL_eq]
    refine .agg _ cs (by simpa using hl) fun i x v hx hv => ?_
    rw [List.getElem?_map] at hx
    cases hq : vs[i]? with
    | none => rw [hq] at hx; cases hx
    | some y => rw [hq] at hx; cases hx; exact ih i y v hq hv
  | tup vs cs hl _ ih =>
    simp only [V.ren, V.renL_eq]
    refine .tup _ cs (by simpa using hl) fun i x v hx hv => ?_
    rw [List.getElem?_map] at hx
    cases hq : vs[i]? with
    | none => rw [hq] at hx; cases hx
    | some y => rw [hq] at hx; cases hx; exact ih i y v hq hv
  | func f vs cs hl _ ih =>
    simp only [V.ren, V.renL_eq]
    refine .func f _ cs (by simpa using hl) fun i x v hx hv => ?_
    rw [List.getElem?_map] at hx
    cases hq : vs[i]? with
    | none => rw [hq] at hx; cases hx
    | some y => rw [hq] at hx; cases hx; exact ih i y v hq hv
  | iface t x v _ ih => exact .iface t _ v ih
  | nne id a c h1 => exact .nne _ a c h1
  | mref id b k h1 => exact .mref _ b k (hμ _ _ h1)

/-- The caller's name of a name of the callee's. -/
def up (rl : List Nat) (n id : Nat) : Nat := if id < rl.length then rn rl id else n + (id - rl.length)

def rem : List Nat → Store → Store
  | [], σ => σ
  | i :: l, σ => upd (rem l σ) i none

def over (ρ : Nat → Nat) : List (Nat × Blk) → Store → Store
  | [], σ => σ
  | (i, b) :: l, σ => upd (over ρ l σ) (ρ i) (some (b.ren ρ))

theorem rem_ap : ∀ (l : List Nat) (σ : Store) (i : Nat), rem l σ i = if i ∈ l then none else σ i
  | [], σ, i => by simp [rem]
  | j :: l, σ, i => by
    simp only [rem, upd_ap, rem_ap l σ i, List.mem_cons]
    by_cases e : i = j <;> simp [e]

theorem over_out {ρ : Nat → Nat} : ∀ {l : List (Nat × Blk)} {σ : Store} {i : Nat}, (∀ p ∈ l, ρ p.1 ≠ i) → over ρ l σ i = σ i
  | [], σ, i, _ => rfl
  | (j, b) :: l, σ, i, h => by
    simp only [over]
    rw [upd_ne _ _ (fun e => h (j, b) (by simp) e.symm)]
    exact over_out fun p hp => h p (by simp [hp])

theorem over_in {ρ : Nat → Nat} : ∀ {l : List (Nat × Blk)} {σ : Store} {i : Nat} {blk : Blk}, (∀ p ∈ l, ∀ q ∈ l, ρ p.1 = ρ q.1 → p.1 = q.1) → over ρ l σ i = some blk → (∃ j b, ρ j = i ∧ stab l j = some b ∧ blk = b.ren ρ) ∨ ((∀ p ∈ l, ρ p.1 ≠ i) ∧ σ i = some blk)
  | [], σ, i, blk, _, h => .inr ⟨fun p hp => by simp at hp, h⟩
  | (j, b) :: l, σ, i, blk, hinj, h => by
    simp only [over] at h
    by_cases e : i = ρ j
    · subst e
      rw [upd_same] at h; cases h
      exact .inl ⟨j, b, rfl, by simp [stab], rfl⟩
    · rw [upd_ne _ _ e] at h
      rcases over_in (fun p hp q hq => hinj p (by simp [hp]) q (by simp [hq])) h with ⟨j', b', h1, h2, h3⟩ | ⟨h1, h2⟩
      · refine .inl ⟨j', b', h1, ?_, h3⟩
        simp only [stab]
        by_cases e2 : j' = j
        · subst e2; exact (e h1.symm).elim
        · rw [if_neg e2]; exact h2
      · refine .inr ⟨fun p hp => ?_, h2⟩
        rcases List.mem_cons.1 hp with rfl | hp
        · exact fun e' => e e'.symm
        · exact h1 p hp

end
end Go.AM
