import Derived.Test.YtnnkfanmokeiaaaAmN6
import Derived.Test.YtnnkfanmokeiaaaAmSoft2
set_option linter.unusedVariables false
set_option linter.unusedSectionVars false
set_option linter.unusedSimpArgs false
namespace Go.AM
open Go Go.RowKit
variable [Glob]
section
variable {P : Program} {N na : Nat} {A : Nat → Nat → Prop} {μ μ' : Nat → Option bg} {T T' : Nat → V} {σ σ' : ax} {w w' : World} {a : Act} {n n' : Nat} {l : List bq} {dst : Option Nat} {op : aW} {K : S → FP → Prop} {acc : FP}
theorem sZ {v : V} {σ' : ax} {n' : Nat} (R W : List Nat) (C : List Cl) (h : ay op (aB T) σ n = some (v, σ', n')) (hR : cV op (aB T) = R) (hW : cR op (aB T) = W) (hC : fM op (aB T) C) (hok : Ft.ok ⟨R, W, C, []⟩) (k : ca P l ⟨a8 T dst v, σ', n'⟩ (acc ++ [(⟨R, W, C, []⟩, n, n')]) K) : ca P (⟨dst, op, none⟩ :: l) ⟨T, σ, n⟩ acc K := by
  subst hR; subst hW
  simp only [ca]
  have k' : ∃ C Kp, fM op (aB T) C ∧ fN σ σ' (cV op (aB T)) Kp ∧ Ft.ok ⟨cV op (aB T), cR op (aB T), C, Kp⟩ ∧ ca P l ⟨a8 T dst v, σ', n'⟩ (acc ++ [(⟨cV op (aB T), cR op (aB T), C, Kp⟩, n, n')]) K := ⟨C, [], hC, fun c hc => by simp at hc, hok, k⟩
  unfold eN
  split
  · simp [ay] at h
  · simp [ay] at h
  · unfold dD
    split
    · simp [ay] at h
    · simp [ay] at h
    · simp [ay] at h
    · simp [ay] at h
    · simp only [h]; exact k'
theorem cb {v : V} {σ' : ax} {n' : Nat} (R W : List Nat) (h : ay op (aB T) σ n = some (v, σ', n')) (hR : cV op (aB T) = R) (hW : cR op (aB T) = W) (k : ca P l ⟨a8 T dst v, σ', n'⟩ (acc ++ [(⟨R, W, [], []⟩, n, n')]) K) : ca P (⟨dst, op, none⟩ :: l) ⟨T, σ, n⟩ acc K :=
  sZ R W [] h hR hW (.inl rfl) (.inl rfl) k
theorem ca.nil' (k : K ⟨T, σ, n⟩ acc) : ca P [] ⟨T, σ, n⟩ acc K := k
theorem s6 : ∀ {pre : List (Nat × bd)}, dp σ pre → ∀ p ∈ pre, σ p.1 = some p.2
  | [], _, p, hp => by cases hp
  | q :: pre, h, p, hp => by
    rcases List.mem_cons.1 hp with rfl | hp
    · exact h.1
    · exact s6 h.2 p hp
def j7 (σ σ' : ax) : List Cl → Prop
  | [] => True
  | c :: l => (∀ k, b8 σ' k (.ptr c.1 c.2.1 c.2.2) = b8 σ k (.ptr c.1 c.2.1 c.2.2)) ∧ j7 σ σ' l
theorem j7.ok {σ σ' : ax} {R : List Nat} : ∀ {Kp : List Cl}, j7 σ σ' Kp → (Kp.all fun c => R.contains c.1) = true → fN σ σ' R Kp
  | [], _, _, c, hc => by simp at hc
  | c0 :: l, h, hR, c, hc => by
    simp only [List.all_cons, Bool.and_eq_true] at hR
    rcases List.mem_cons.1 hc with rfl | hc
    · exact ⟨by simpa using hR.1, h.1⟩
    · exact j7.ok h.2 hR.2 c hc
def o9 (a b : Ft × Nat × Nat) : Bool :=
  (a.1.W.all fun id => !b.1.R.contains id) && (b.1.W.all fun id => !a.1.R.contains id) && ((a.1.R ++ a.1.W).all fun id => !(decide (b.2.1 ≤ id) && decide (id < b.2.2))) && ((b.1.R ++ b.1.W).all fun id => !(decide (a.2.1 ≤ id) && decide (id < a.2.2)))
def l9 (f g : Ft) : Bool := (match f.C with
  | [c] => g.K.contains c
  | _ => false) || (match g.C with
  | [c] => f.K.contains c
  | _ => false)
def pc (pairs : List (Nat × Nat)) (acc : FP) : Bool := pairs.all fun p => match acc[p.1]?, acc[p.2]? with
  | some a, some b => o9 a b || l9 a.1 b.1
  | _, _ => false
theorem s7 {f g : Ft} (h : l9 f g = true) : hS f g := by
  unfold l9 at h
  rcases Bool.or_eq_true _ _ ▸ h with h | h
  · split at h
    · rename_i c hc; exact .inl ⟨c, hc, by simpa using h⟩
    · cases h
  · split at h
    · rename_i c hc; exact .inr ⟨c, hc, by simpa using h⟩
    · cases h
theorem s8 {pairs : List (Nat × Nat)} {acc : FP} (h : pc pairs acc = true) : o8 pairs acc := by
  intro p hp
  have := List.all_eq_true.1 h p hp
  split at this
  · rename_i a b ha hb
    refine ⟨a, b, ha, hb, ?_⟩
    rcases (Bool.or_eq_true _ _).mp this with this | this
    · refine .inl ?_
      simp [o9] at this
      obtain ⟨⟨⟨h1, h2⟩, h3⟩, h4⟩ := this
      refine ⟨fun id hid => h1 id hid, fun id hid => h2 id hid, fun id hid => ?_, fun id hid => ?_⟩
      · rintro ⟨g1, g2⟩
        rcases List.mem_append.1 hid with h | h
        · have := h3.1 id h; omega
        · have := h3.2 id h; omega
      · rintro ⟨g1, g2⟩
        rcases List.mem_append.1 hid with h | h
        · have := h4.1 id h; omega
        · have := h4.2 id h; omega
    · exact .inr (s7 this)
  · cases this
theorem j8 {K K' : S → FP → Prop} : ∀ (l : List bq) (s : S) (acc : FP), (∀ s acc, K s acc → K' s acc) → ca P l s acc K → ca P l s acc K'
  | [], s, acc, hk, h => hk s acc h
  | i :: l, s, acc, hk, h => by
    have one : ∀ {K1 K2 : S → List Nat → List Nat → Prop} {op : aW} {dst : Option Nat}, (∀ s r w, K1 s r w → K2 s r w) → eN P op dst s K1 → eN P op dst s K2 := by
      intro K1 K2 op dst hk h
      unfold eN at h ⊢
      split at h
      · obtain ⟨pre, post, v, m, W, h1, h2, h3⟩ := h; exact ⟨pre, post, v, m, W, h1, h2, hk _ _ _ h3⟩
      · exact h
      · unfold dD at h ⊢
        split at h
        · obtain ⟨ds, r, h1, h2, h3⟩ := h; exact ⟨ds, r, h1, h2, hk _ _ _ h3⟩
        · obtain ⟨v, σ', n', h1, h2, h3⟩ := h; exact ⟨v, σ', n', h1, h2, hk _ _ _ h3⟩
        · obtain ⟨f, caps, ds, r, h0, h1, h2, h3⟩ := h; exact ⟨f, caps, ds, r, h0, h1, h2, hk _ _ _ h3⟩
        · obtain ⟨f, caps, v, σ', n', h0, h1, h2, h3⟩ := h; exact ⟨f, caps, v, σ', n', h0, h1, h2, hk _ _ _ h3⟩
        · split at h
          · exact hk _ _ _ h
          · exact h.elim
    unfold ca at h ⊢
    cases hg : i.guard with
    | none => rw [hg] at h; exact one (fun s r w ⟨C, Kp, h1, h2, h3, h4⟩ => ⟨C, Kp, h1, h2, h3, j8 l s _ hk h4⟩) h
    | some p =>
      obtain ⟨g, b⟩ := p
      rw [hg] at h
      simp only at h ⊢
      cases hb : fm (s.T g) with
      | none => rw [hb] at h; exact h.elim
      | some b' =>
        rw [hb] at h
        simp only at h ⊢
        by_cases hbb : b' = some b
        · rw [if_pos hbb] at h ⊢; exact one (fun s r w ⟨C, Kp, h1, h2, h3, h4⟩ => ⟨C, Kp, h1, h2, h3, j8 l s _ hk h4⟩) h
        · rw [if_neg hbb] at h ⊢; exact j8 l _ _ hk h
theorem pd {Q : Exit → S → Prop} {s : S} (s0 : S) {pairs : List (Nat × Nat)} {l : List bq} (h : ca P l s [] fun s' acc => pc pairs acc = true ∧ bU na s' s0) (k : Q .normal s0) : aP P N na (.opsS pairs l) Q s :=
  aP.post (bG.nwp (bG.opsS (j8 l s [] (fun s' acc ⟨h1, h2⟩ => ⟨s8 h1, s0, h2, k⟩) h)))
theorem cO.grow {σ σ2 : ax} (hg : ∀ id blk, σ id = some blk → σ2 id = some blk) {v : V} {d : D} (h : cO σ v d) : cO σ2 v d := by
  induction h with
  | d x => exact .d x
  | sub _ hs ih => exact .sub ih hs
  | loc hid hle => exact .loc (hg _ _ hid) hle
  | var1 hid _ hs ih => exact .var1 (hg _ _ hid) ih hs
  | var hid hl _ ih => exact .var (hg _ _ hid) hl ih
  | elem hid hx => exact .elem (hg _ _ hid) hx
  | agg hl _ ih => exact .agg hl ih
  | func hl _ ih => exact .func hl ih
theorem dV.grow {σ σ2 : ax} (hg : ∀ id blk, σ id = some blk → σ2 id = some blk) : ∀ {l : List V} {r : List D}, dV σ l r → dV σ2 l r
  | [], [], _ => trivial
  | v :: l, d :: r, h => ⟨h.1.grow hg, dV.grow hg h.2⟩
  | [], _ :: _, h => h.elim
  | _ :: _, [], h => h.elim
end
end Go.AM
