import Derived.Test.YtnnkfanmokeiaaaAmN2
import Derived.Test.YtnnkfanmokeiaaaAmOr
set_option linter.unusedVariables false
set_option linter.unusedSectionVars false
set_option linter.unusedSimpArgs false
namespace Go.AM
open Go Go.RowKit
variable [Glob]
def iG (P : Program) (f : Nat) (ds : List D) (ch : List PanicEntry) : Prop :=
  gR P f = true ∧ ∀ (A : Nat → Nat → Prop) (w : World) (vs : Array Value), (∀ b o, A b o → b < w.heap.size) → iH A w → ds.length = vs.size → (∀ (i : Nat) d v, ds[i]? = some d → vs[i]? = some v → DRel A w d v) →
    Calls P f vs w fun e w' => e = .panicked ch ∧ Below w.heap.size w w'
def dK (P : Program) (f : Nat) (ds : List D) (o : Option D) (ch : List PanicEntry) : Prop :=
  match o with
  | some r => PCall P f ds r
  | none => iG P f ds ch
theorem dK.ok {P : Program} {f : Nat} {ds : List D} {r : D} {ch : List PanicEntry} (h : dK P f ds (some r) ch) : PCall P f ds r := h
theorem dK.pan {P : Program} {f : Nat} {ds : List D} {ch : List PanicEntry} (h : dK P f ds none ch) : iG P f ds ch := h
section
variable {P : Program} {N na : Nat} {A : Nat → Nat → Prop} {μ μ' : Nat → Option bn} {T T' : Nat → V} {σ σ' : aB} {w w' : World} {a : Act} {n n' : Nat} {l : List bt} {dst : Option Nat} {op : be} {K : S → Prop}
theorem sr {l : List bt} {ops : Array Oper} {ν : Nat → Nat} {Q : Exit → Act → World → Prop} (hc : eW P N ops l ops.toList = true) (hν : ∀ k, ν k ≤ ν (k + 1)) (rest : List Nat) :
    ∀ (m k : Nat) (T : Nat → V) (σ : aB) (a : Act) (w : World) (μ : Nat → Option bn), dO P l ν (List.range' k m) T σ T' σ' → c5 N A μ T σ a w → (∀ id, ν k ≤ id → μ id = none) →
      qa N A μ σ w T' σ' (ν k) (ν (k + m)) (fun a w => wpOps P ops Q rest a w) → wpOps P ops Q (List.range' k m ++ rest) a w
  | 0, k, T, σ, a, w, μ, h, hsim, hfr, hk => by
    obtain ⟨rfl, rfl⟩ := h
    exact hk a w μ hsim (aM.refl _ _ _) fun id h => .inl h
  | m + 1, k, T, σ, a, w, μ, h, hsim, hfr, hk => by
    rw [List.range'_succ] at h ⊢
    obtain ⟨iq, T1, σ1, h1, h2, h3⟩ := h
    rw [List.cons_append, wpOps_cons]
    have hle : ∀ p q, ν p ≤ ν (p + q) := by
      intro p q; induction q with
      | zero => exact Nat.le_refl _
      | succ q ih => exact Nat.le_trans ih (hν _)
    have e1 : k + 1 + m = k + (m + 1) := by omega
    refine kL hc h1 hsim (fun id hid1 hid2 => hfr id hid1) h2 fun a1 w1 μ1 hsim1 hg1 hd1 => ?_
    refine sr hc hν rest m (k + 1) T1 σ1 a1 w1 μ1 h3 hsim1 (fun id hid1 => ?_) fun a2 w2 μ2 hsim2 hg2 hd2 => ?_
    · cases hm : μ1 id with
      | none => rfl
      | some p =>
        rcases hd1 id (by rw [hm]; simp) with h | h
        · exact (h (hfr id (Nat.le_trans (hν k) hid1))).elim
        · omega
    · refine hk a2 w2 μ2 hsim2 (hg1.trans hg2) fun id h => ?_
      rcases hd2 id h with h | h
      · rcases hd1 id h with h | h
        · exact .inl h
        · exact .inr ⟨h.1, Nat.lt_of_lt_of_le h.2 (by rw [← e1]; exact hle _ _)⟩
      · exact .inr ⟨Nat.le_trans (hν k) h.1, by rw [← e1]; exact h.2⟩
theorem dO.pre {l m : List bt} {ν : Nat → Nat} (hlm : ∀ (j : Nat) (x : bt), l[j]? = some x → m[j]? = some x) : ∀ (r : List Nat) (T : Nat → V) (σ : aB), dO P l ν r T σ T' σ' → dO P m ν r T σ T' σ'
  | [], _, _, h => h
  | q :: r, T, σ, ⟨i, T1, σ1, h1, h2, h3⟩ => ⟨i, T1, σ1, hlm _ _ h1, h2, dO.pre hlm r T1 σ1 h3⟩
theorem wP {wr : Bool} {f : Nat} {xs : List AX} {ds : List D} {ch : List PanicEntry} {ops : Array Oper} {p : Nat} {Q : Exit → Act → World → Prop} {K : Act → World → Prop} (hc : eW P N ops l ops.toList = true) (hp : l[p]? = some ⟨dst, .call wr f xs, none⟩)
    (hsim : c5 N A μ T σ a w) (h1 : aQ σ (xs.map (aA T)) ds) (h2 : iG P f ds ch) (hk : ∀ w', aJ A μ σ w' → aM μ σ w μ σ w' → Q (.panic ch) a w') : wpOp P ops Q p K a w := by
  obtain ⟨hl, hcs⟩ := gS hc
  have hlt : p < ops.size := by have := (List.getElem?_eq_some_iff.1 hp).1; rw [hl] at this; simpa using this
  have ho : ops[p]? = some ops[p] := by simp [hlt]
  have hc1 := hcs p _ ops[p] hp (by simp)
  simp only [jD, Bool.and_eq_true, beq_iff_eq] at hc1
  obtain ⟨⟨⟨hdst, hdN⟩, hg⟩, hop⟩ := hc1
  unfold wpOp
  rw [ho]
  simp only
  cases hgo : ops[p].guard with
  | some q => rw [hgo] at hg; simp [jC] at hg
  | none =>
    simp only [Region.wanted, hgo, if_true]
    left
    generalize hoo : ops[p].op = oo at hop
    cases wr
    all_goals
      unfold gw at hop
      cases oo <;> simp only [Bool.false_eq_true] at hop
      rename_i c
      split at hop
      · rename_i f' hcal
        simp only [Bool.and_eq_true, beq_iff_eq] at hop
        obtain ⟨rfl, hxs⟩ := hop
        obtain ⟨g1, g2⟩ := hsim.ev.list hxs
        obtain ⟨g3, g4⟩ := aQ.sound hsim.store h1 (us := (c.args.map a.eval).toList) (by simpa using g1) (fun i x v hx hv => g2 i x v hx (by simpa using hv))
        obtain ⟨fn, k1, k2, k3⟩ := kJ h2.1
        unfold Oper.wp
        rw [kI (first := #[]) (captured := #[]) (vs := c.args.map a.eval) hoo ⟨_, hcal, rfl⟩ k1 k2 k3 (by simp)]
        simp only [Oper.upon]
        refine (h2.2 (aw A μ σ) w (c.args.map a.eval) (fun b o h => ?_) hsim.store.glob (by simpa using g3) (fun i d v hd hv => g4 i d v hd (by simpa using hv))).mono fun e w' ⟨he, hb⟩ => ?_
        · rcases h with h | h
          · obtain ⟨j, bl, k, hj, hp⟩ := hO h
            obtain ⟨_, hc⟩ := cf.block (hsim.store.blks j bl hj) hp
            exact cU hc
          · exact hsim.store.alt b o h
        · subst he
          exact hk w' (hsim.store.ofBelow hb) (.ofBelow hsim.store hb)
      · cases hop
theorem bM.opsP {wr : Bool} {Q : Exit → S → Prop} {s : S} {f : Nat} {xs : List AX} {ch : List PanicEntry} (p : Nat) (hp : l[p]? = some ⟨dst, .call wr f xs, none⟩)
    (h : aZ P (l.take p) s fun s1 => ∃ ds, aQ s1.σ (xs.map (aA s1.T)) ds ∧ iG P f ds ch ∧ Q (.panic ch) s1) : bM P N (.ops false l) Q s := by
  intro code hc A μ a w ⟨hs, hfr⟩
  cases code <;> simp only [cP, Bool.false_eq_true] at hc
  rename_i id ops draw
  simp only [Bool.and_eq_true, beq_iff_eq, Bool.or_eq_true, Bool.not_eq_true'] at hc
  obtain ⟨⟨hdd, hcl⟩, hdr⟩ := hc
  subst hdd
  have hlen := (gS hcl).1
  have hls : l.length = ops.size := by simpa using hlen
  have hpl : p < l.length := (List.getElem?_eq_some_iff.1 hp).1
  obtain ⟨ν, T', σ', e1, e2, e3, ds, e5, e6, e4⟩ := aZ.chain (l.take p) [] s _ h
  simp only [List.length_nil, List.nil_append, Nat.zero_add, List.length_take, Nat.min_eq_left (Nat.le_of_lt hpl)] at e3 e4 e5
  have e0 : ν 0 = s.n := e1 0 (Nat.zero_le _)
  have hle : ∀ p q, p ≤ q → ν p ≤ ν q := by
    intro p q hpq
    induction q with
    | zero => have : p = 0 := by omega
              subst this; exact Nat.le_refl _
    | succ q ih =>
      rcases Nat.lt_or_ge p (q + 1) with h | h
      · exact Nat.le_trans (ih (by omega)) (e2 _)
      · have : p = q + 1 := by omega
        subst this; exact Nat.le_refl _
  have hr : List.range ops.size = List.range' 0 p ++ p :: List.range' (p + 1) (ops.size - (p + 1)) := by
    rw [List.range_eq_range', show p :: List.range' (p + 1) (ops.size - (p + 1)) = List.range' p (ops.size - p) by
      rw [show ops.size - p = (ops.size - (p + 1)) + 1 by omega, List.range'_succ]]
    have := List.range'_append_1 (s := 0) (m := p) (n := ops.size - p)
    rw [Nat.zero_add, show p + (ops.size - p) = ops.size by omega] at this
    exact this.symm
  refine wp_region ?_
  rw [hr]
  refine sr hcl e2 _ p 0 s.T s.σ a w μ (dO.pre (fun j x hx => ?_) _ _ _ e3) hs (fun id hid1 => hfr id (by omega)) fun a' w' μ' hsim hg hdom => ?_
  · rw [List.getElem?_take] at hx
    split at hx
    · exact hx
    · cases hx
  · show wpOps P ops _ (p :: _) a' w'
    rw [wpOps_cons]
    refine wP hcl hp hsim e5 e6 fun w2 hst hg2 => ?_
    refine ⟨trivial, ⟨T', σ', ν p⟩, μ', e4, ⟨⟨hsim.size, hsim.defers, fun i => hg2.keepV hsim.store.alt (hsim.tmps i), hst⟩, fun id hid => ?_⟩, hg.trans hg2, by have := hle 0 p (Nat.zero_le _); simp only; omega, fun id h => (hdom id h).imp_right fun h => by have := h.1; omega⟩
    cases hm : μ' id with
    | none => rfl
    | some q =>
      rcases hdom id (by rw [hm]; simp) with h | h
      · exact (h (hfr id (by have := hle 0 p (Nat.zero_le _); simp only at hid; omega))).elim
      · simp only [Nat.zero_add] at h hid; omega
theorem aI.opsP {wr : Bool} {Q : Exit → S → Prop} {s : S} {f : Nat} {xs : List AX} {ch : List PanicEntry} (p : Nat) (hp : l[p]? = some ⟨dst, .call wr f xs, none⟩)
    (h : aZ P (l.take p) s fun s1 => ∃ ds, aQ s1.σ (xs.map (aA s1.T)) ds ∧ iG P f ds ch ∧ Q (.panic ch) s1) : aI P N na (.ops false l) Q s := (bM.opsP p hp h).nwp
def dW (res : List eD) (o : Option D) (ch : List PanicEntry) (e : Exit) (s' : S) : Prop :=
  match o with
  | some r => FQ res r e s'
  | none => e = .panic ch
theorem dW.ret {res : List eD} {r : D} {ch : List PanicEntry} {e : Exit} {s' : S} (h : FQ res r e s') : dW res (some r) ch e s' := h
theorem dW.pan {res : List eD} {ch : List PanicEntry} {s' : S} : dW res none ch (.panic ch) s' := rfl
class NoDfr : Prop where
  no : Glob.dfr = []
theorem dK.introN [DfrOk P] [NoDfr] {f : Nat} {af : bI} (hc : bL P f af = true) {ds : List D} {o : Option D} {ch : List PanicEntry} (hl : ds.length ≤ af.n)
    (h : aI P af.n 0 af.code (dW af.res o ch) ⟨eZ (ds.map V.d), fun _ => none, 0⟩) : dK P f ds o ch := by
  cases o with
  | some r => exact PCall.introN hc hl h
  | none =>
    refine ⟨(jQ hc).1, fun A w vs halt hglob hlen hrel => ?_⟩
    have hs : aJ A (fun _ => none) (fun _ => none) w := { blks := fun _ _ h => (nomatch h), inj := fun _ _ _ _ _ _ _ h => (nomatch h), amb := fun _ _ _ _ h => (nomatch h), alt := halt, glob := hglob.mono fun b o v h1 h2 => ⟨h1, fun h => h.elim (fun ⟨_, _, h3, _⟩ => by cases h3) h2⟩ }
    have hfull : aw A (fun _ => none) (fun _ => none) = A := by
      funext b o
      apply propext
      constructor
      · rintro (⟨id, blk, h1, _⟩ | h)
        · cases h1
        · exact h
      · exact .inr
    obtain ⟨h1, fn, c, h2, h3, h4, h5, h6⟩ := jQ hc
    refine calls_of_wp_defers h2 h3 ?_
    have hsim : gD af.n A (fun _ => none) ⟨eZ (ds.map V.d), fun _ => none, 0⟩ { tmps := vs ++ Array.replicate (fn.ntmps - vs.size) Go.undef, defers := [] } w := by
      refine ⟨⟨by simp; omega, (fun d h => by cases h), fun i => ?_, hs⟩, fun _ _ => rfl⟩
      simp only [eZ]
      by_cases hi : i < ds.length
      · have e1 : (ds.map V.d)[i]? = some (.d ds[i]) := by simp [hi]
        have e2 : vs[i]? = some (vs[i]'(by omega)) := by simp
        rw [Array.getD_eq_getD_getElem?, Array.getElem?_append_left (by omega), e1, e2]
        rw [hfull]
        exact .d _ _ (hrel i _ _ (by simp [hi]) e2)
      · rw [List.getElem?_eq_none (by simpa using hi)]
        exact .d _ _ (.undef _)
    refine wp_mono (h c h6 A _ _ w hsim) fun e a' w' ⟨hp, s', μ', he, hs', hg⟩ => ?_
    have he : e = .panic ch := he
    subst he
    have hd : a'.defers = [] := by
      cases hq : a'.defers with
      | nil => rfl
      | cons d ds' =>
        obtain ⟨_, G, _, hG, _⟩ := hs'.1.defers d (by rw [hq]; exact List.mem_cons_self ..)
        rw [NoDfr.no] at hG; cases hG
    show Leaves P fn a'.tmps _ a'.defers (.panicking ch) w'
    rw [hd]
    exact ⟨rfl, ⟨hg.os, hg.tape, hg.output, hg.size, fun b hb => hg.block b hb fun ⟨id, blk, k, h1, _⟩ => by cases h1⟩⟩
end
end Go.AM
