import Derived.Test.YtfjelgjfbjjopaaAmN6
import Derived.Test.YtfjelgjfbjjopaaAmSoft2
/-  Several texts in one. -/
section
set_option linter.unusedVariables false
set_option linter.unusedSectionVars false
set_option linter.unusedSimpArgs false
namespace Go.AM
open Go Go.RowKit
variable [Glob]
section
variable {P : Program} {N na : Nat} {A : Nat → Nat → Prop} {μ μ' : Nat → Option aR} {T T' : Nat → V} {σ σ' : au} {w w' : World} {a : Act} {n n' : Nat} {l : List aX} {dst : Option Nat} {op : aO} {K : S → FP → Prop} {acc : FP}
theorem td {v : V} {σ' : au} {n' : Nat} (R W : List Nat) (C : List Cl) (h : ay op (aC T) σ n = some (v, σ', n')) (hR : c6 op (aC T) = R) (hW : cS op (aC T) = W) (hC : fW op (aC T) C) (hok : Ft.ok ⟨R, W, C, []⟩) (k : ct P l ⟨aN T dst v, σ', n'⟩ (acc ++ [(⟨R, W, C, []⟩, n, n')]) K) : ct P (⟨dst, op, none⟩ :: l) ⟨T, σ, n⟩ acc K := by
  subst hR; subst hW
  simp only [ct]
  have k' : ∃ C Kp, fW op (aC T) C ∧ fX σ σ' (c6 op (aC T)) Kp ∧ Ft.ok ⟨c6 op (aC T), cS op (aC T), C, Kp⟩ ∧ ct P l ⟨aN T dst v, σ', n'⟩ (acc ++ [(⟨c6 op (aC T), cS op (aC T), C, Kp⟩, n, n')]) K := ⟨C, [], hC, fun c hc => by simp at hc, hok, k⟩
  unfold e8
  split
  · simp [ay] at h
  · simp [ay] at h
  · unfold dI
    split
    · simp [ay] at h
    · simp [ay] at h
    · simp [ay] at h
    · simp [ay] at h
    · simp only [h]; exact k'
theorem cu {v : V} {σ' : au} {n' : Nat} (R W : List Nat) (h : ay op (aC T) σ n = some (v, σ', n')) (hR : c6 op (aC T) = R) (hW : cS op (aC T) = W) (k : ct P l ⟨aN T dst v, σ', n'⟩ (acc ++ [(⟨R, W, [], []⟩, n, n')]) K) : ct P (⟨dst, op, none⟩ :: l) ⟨T, σ, n⟩ acc K :=
  td R W [] h hR hW (.inl rfl) (.inl rfl) k
theorem ct.nil' (k : K ⟨T, σ, n⟩ acc) : ct P [] ⟨T, σ, n⟩ acc K := k
theorem te : ∀ {pre : List (Nat × aV)}, gK σ pre → ∀ p ∈ pre, σ p.1 = some p.2
  | [], _, p, hp => by cases hp
  | q :: pre, h, p, hp => by
    rcases List.mem_cons.1 hp with rfl | hp
    · exact h.1
    · exact te h.2 p hp
def kB (σ σ' : au) : List Cl → Prop
  | [] => True
  | c :: l => (∀ k, co σ' k (.ptr c.1 c.2.1 c.2.2) = co σ k (.ptr c.1 c.2.1 c.2.2)) ∧ kB σ σ' l
theorem kB.ok {σ σ' : au} {R : List Nat} : ∀ {Kp : List Cl}, kB σ σ' Kp → (Kp.all fun c => R.contains c.1) = true → fX σ σ' R Kp
  | [], _, _, c, hc => by simp at hc
  | c0 :: l, h, hR, c, hc => by
    simp only [List.all_cons, Bool.and_eq_true] at hR
    rcases List.mem_cons.1 hc with rfl | hc
    · exact ⟨by simpa using hR.1, h.1⟩
    · exact kB.ok h.2 hR.2 c hc
def mE (a b : Ft × Nat × Nat) : Bool :=
  (a.1.W.all fun id => !b.1.R.contains id) && (b.1.W.all fun id => !a.1.R.contains id) && ((a.1.R ++ a.1.W).all fun id => !(decide (b.2.1 ≤ id) && decide (id < b.2.2))) && ((b.1.R ++ b.1.W).all fun id => !(decide (a.2.1 ≤ id) && decide (id < a.2.2)))
def mF (f g : Ft) : Bool := (match f.C with
  | [c] => g.K.contains c
  | _ => false) || (match g.C with
  | [c] => f.K.contains c
  | _ => false)
def mG (pairs : List (Nat × Nat)) (acc : FP) : Bool := pairs.all fun p => match acc[p.1]?, acc[p.2]? with
  | some a, some b => mE a b || mF a.1 b.1
  | _, _ => false
theorem tf {f g : Ft} (h : mF f g = true) : iv f g := by
  unfold mF at h
  rcases Bool.or_eq_true _ _ ▸ h with h | h
  · split at h
    · rename_i c hc; exact .inl ⟨c, hc, by simpa using h⟩
    · cases h
  · split at h
    · rename_i c hc; exact .inr ⟨c, hc, by simpa using h⟩
    · cases h
theorem tg {pairs : List (Nat × Nat)} {acc : FP} (h : mG pairs acc = true) : pz pairs acc := by
  intro p hp
  have := List.all_eq_true.1 h p hp
  split at this
  · rename_i a b ha hb
    refine ⟨a, b, ha, hb, ?_⟩
    rcases (Bool.or_eq_true _ _).mp this with this | this
    · refine .inl ?_
      simp [mE] at this
      obtain ⟨⟨⟨h1, h2⟩, h3⟩, h4⟩ := this
      refine ⟨fun id hid => h1 id hid, fun id hid => h2 id hid, fun id hid => ?_, fun id hid => ?_⟩
      · rintro ⟨g1, g2⟩
        rcases List.mem_append.1 hid with h | h
        · have := h3.1 id h; omega
        · have := h3.2 id h; omega
      · rintro ⟨g1, g2⟩
        rcases List.mem_append.1 hid with h | h
        · have := h4.1 id h; omega
        · have := h4.2 id h; omega
    · exact .inr (tf this)
  · cases this
theorem kC {K K' : S → FP → Prop} : ∀ (l : List aX) (s : S) (acc : FP), (∀ s acc, K s acc → K' s acc) → ct P l s acc K → ct P l s acc K'
  | [], s, acc, hk, h => hk s acc h
  | i :: l, s, acc, hk, h => by
    have one : ∀ {K1 K2 : S → List Nat → List Nat → Prop} {op : aO} {dst : Option Nat}, (∀ s r w, K1 s r w → K2 s r w) → e8 P op dst s K1 → e8 P op dst s K2 := by
      intro K1 K2 op dst hk h
      unfold e8 at h ⊢
      split at h
      · obtain ⟨pre, post, v, m, W, h1, h2, h3⟩ := h; exact ⟨pre, post, v, m, W, h1, h2, hk _ _ _ h3⟩
      · exact h
      · unfold dI at h ⊢
        split at h
        · obtain ⟨ds, r, h1, h2, h3⟩ := h; exact ⟨ds, r, h1, h2, hk _ _ _ h3⟩
        · obtain ⟨v, σ', n', h1, h2, h3⟩ := h; exact ⟨v, σ', n', h1, h2, hk _ _ _ h3⟩
        · obtain ⟨f, caps, ds, r, h0, h1, h2, h3⟩ := h; exact ⟨f, caps, ds, r, h0, h1, h2, hk _ _ _ h3⟩
        · obtain ⟨f, caps, v, σ', n', h0, h1, h2, h3⟩ := h; exact ⟨f, caps, v, σ', n', h0, h1, h2, hk _ _ _ h3⟩
        · split at h
          · exact hk _ _ _ h
          · exact h.elim
    unfold ct at h ⊢
    cases hg : i.guard with
    | none => rw [hg] at h; exact one (fun s r w ⟨C, Kp, h1, h2, h3, h4⟩ => ⟨C, Kp, h1, h2, h3, kC l s _ hk h4⟩) h
    | some p =>
      obtain ⟨g, b⟩ := p
      rw [hg] at h
      simp only at h ⊢
      cases hb : fA (s.T g) with
      | none => rw [hb] at h; exact h.elim
      | some b' =>
        rw [hb] at h
        simp only at h ⊢
        by_cases hbb : b' = some b
        · rw [if_pos hbb] at h ⊢; exact one (fun s r w ⟨C, Kp, h1, h2, h3, h4⟩ => ⟨C, Kp, h1, h2, h3, kC l s _ hk h4⟩) h
        · rw [if_neg hbb] at h ⊢; exact kC l _ _ hk h
theorem pA {Q : Exit → S → Prop} {s : S} (s0 : S) {pairs : List (Nat × Nat)} {l : List aX} (h : ct P l s [] fun s' acc => mG pairs acc = true ∧ bu na s' s0) (k : Q .normal s0) : aF P N na (.opsS pairs l) Q s :=
  aF.post (bK.nwp (bK.opsS (kC l s [] (fun s' acc ⟨h1, h2⟩ => ⟨tg h1, s0, h2, k⟩) h)))
theorem cL.grow {σ σ2 : au} (hg : ∀ id blk, σ id = some blk → σ2 id = some blk) {v : V} {d : D} (h : cL σ v d) : cL σ2 v d := by
  induction h with
  | d x => exact .d x
  | sub _ hs ih => exact .sub ih hs
  | loc hid hle => exact .loc (hg _ _ hid) hle
  | var1 hid _ hs ih => exact .var1 (hg _ _ hid) ih hs
  | var hid hl _ ih => exact .var (hg _ _ hid) hl ih
  | elem hid hx => exact .elem (hg _ _ hid) hx
  | agg hl _ ih => exact .agg hl ih
  | func hl _ ih => exact .func hl ih
theorem cQ.grow {σ σ2 : au} (hg : ∀ id blk, σ id = some blk → σ2 id = some blk) : ∀ {l : List V} {r : List D}, cQ σ l r → cQ σ2 l r
  | [], [], _ => trivial
  | v :: l, d :: r, h => ⟨h.1.grow hg, cQ.grow hg h.2⟩
  | [], _ :: _, h => h.elim
  | _ :: _, [], h => h.elim
end
end Go.AM
end
section
set_option linter.unusedVariables false
set_option linter.unusedSectionVars false
namespace Go.AM
open Go Go.RowKit
variable [Glob]
variable {P : Program}
theorem dS.empty {f : Nat} {k : Option Nat} {σ σ' : au} {n n' : Nat} {v : V} (hn : dS P f [.d .nils] σ n v σ' n') (he : dS P f [.mapr 0] σ n v σ' n') : dS P f [.d (.vec k [])] σ n v σ' n' := by
  refine ⟨hn.1, fun A μ w vs hs hfr hlen hrel => ?_⟩
  have h1 : vs.size = 1 := by simpa using hlen.symm
  have h0 := hrel 0 (.d (.vec k [])) vs[0] rfl (by simp [h1])
  have one : ∀ (x : V), aA μ (ao A μ σ) w x vs[0] → ∀ (i : Nat) y u, [x][i]? = some y → vs[i]? = some u → aA μ (ao A μ σ) w y u := by
    intro x hx i y u hy hu
    cases i with
    | zero =>
      simp at hy
      subst hy
      have : u = vs[0] := by
        rw [Array.getElem?_eq_getElem (by omega)] at hu
        simpa using hu.symm
      rw [this]; exact hx
    | succ i => simp at hy
  have hd : ∀ (b : Addr) (c : Nat), vs[0] = .slice (some b) 0 c → DRel (ao A μ σ) w (.vec k []) vs[0] → aA μ (ao A μ σ) w (.mapr 0) vs[0] := by
    intro b c hb hdr
    rw [hb] at hdr ⊢
    refine .nne _ _ _ fun k' => ?_
    cases hdr with
    | vecn _ a => exact .vecn k' _
    | vec _ _ b off cap f hc _ _ _ _ _ => exact .vec k' [] b off _ f hc (fun i d h => by simp at h) (fun i d j x h => by simp at h) (fun i d j x h => by simp at h) (fun i d j x h => by simp at h) (fun i d j x h => by simp at h)
  cases h0 with
  | d _ _ hdr =>
    generalize hu : vs[0] = u at hdr
    cases hdr with
    | vecn _ a =>
      cases a with
      | none => exact hn.2 A μ w vs hs hfr (by simpa using hlen) (one _ (by rw [hu]; exact .d _ _ .nils))
      | some b => exact he.2 A μ w vs hs hfr (by simpa using hlen) (one _ (hd _ _ hu (by rw [hu]; exact .vecn k _)))
    | vec _ _ b off cap f hc a1 a2 a3 a4 a5 => exact he.2 A μ w vs hs hfr (by simpa using hlen) (one _ (hd _ _ hu (by rw [hu]; exact .vec k [] b off cap f hc a1 a2 a3 a4 a5)))
end Go.AM
end
