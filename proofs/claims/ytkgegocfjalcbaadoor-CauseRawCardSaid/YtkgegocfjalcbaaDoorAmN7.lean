import Derived.Test.YtkgegocfjalcbaaDoorAmN6
import Derived.Test.YtkgegocfjalcbaaDoorAmSoft2
/-
  AM, part 32: regions that are drawn, with writes.
-/
set_option linter.unusedVariables false
set_option linter.unusedSectionVars false
set_option linter.unusedSimpArgs false
namespace Go.AM
open Go Go.RowKit
variable [Glob]

section
variable {P : Program} {N na : Nat} {A : Nat → Nat → Prop} {μ μ' : Nat → Option Place} {T T' : Nat → V} {σ σ' : Store} {w w' : World} {a : Act} {n n' : Nat} {l : List AInstr} {dst : Option Nat} {op : AOp} {K : S → FP → Prop} {acc : FP}

theorem stepL0 {v : V} {σ' : Store} {n' : Nat} (R W : List Nat) (C : List Cl) (h : stepV op (evT T) σ n = some (v, σ', n')) (hR : footR op (evT T) = R) (hW : footW op (evT T) = W) (hC : CellOk op (evT T) C) (hok : Ft.ok ⟨R, W, C, []⟩) (k : RunOpsL P l ⟨putT T dst v, σ', n'⟩ (acc ++ [(⟨R, W, C, []⟩, n, n')]) K) : RunOpsL P (⟨dst, op, none⟩ :: l) ⟨T, σ, n⟩ acc K := by
  subst hR; subst hW
  simp only [RunOpsL]
  have k' : ∃ C Kp, CellOk op (evT T) C ∧ KeepOk σ σ' (footR op (evT T)) Kp ∧ Ft.ok ⟨footR op (evT T), footW op (evT T), C, Kp⟩ ∧ RunOpsL P l ⟨putT T dst v, σ', n'⟩ (acc ++ [(⟨footR op (evT T), footW op (evT T), C, Kp⟩, n, n')]) K := ⟨C, [], hC, fun c hc => by simp at hc, hok, k⟩
  unfold RunOpL
  split
  · simp [stepV] at h
  · simp [stepV] at h
  · unfold RunOp
    split
    · simp [stepV] at h
    · simp [stepV] at h
    · simp [stepV] at h
    · simp [stepV] at h
    · simp only [h]; exact k'

theorem stepL {v : V} {σ' : Store} {n' : Nat} (R W : List Nat) (h : stepV op (evT T) σ n = some (v, σ', n')) (hR : footR op (evT T) = R) (hW : footW op (evT T) = W) (k : RunOpsL P l ⟨putT T dst v, σ', n'⟩ (acc ++ [(⟨R, W, [], []⟩, n, n')]) K) : RunOpsL P (⟨dst, op, none⟩ :: l) ⟨T, σ, n⟩ acc K :=
  stepL0 R W [] h hR hW (.inl rfl) (.inl rfl) k

theorem RunOpsL.nil' (k : K ⟨T, σ, n⟩ acc) : RunOpsL P [] ⟨T, σ, n⟩ acc K := k

theorem AllS.pre : ∀ {pre : List (Nat × Blk)}, AllS σ pre → ∀ p ∈ pre, σ p.1 = some p.2
  | [], _, p, hp => by cases hp
  | q :: pre, h, p, hp => by
    rcases List.mem_cons.1 hp with rfl | hp
    · exact h.1
    · exact AllS.pre h.2 p hp

theorem stepLW {f : Nat} {xs : List AX} {v : V} {pre : List (Nat × Blk)} {post : List (Nat × Option Blk)} {σ' : Store} {R W : List Nat} (hp : FCall P f (xs.map (evT T)) pre v post) (hpre : AllS σ pre) (hσ : applyP post σ = σ') (hR : pre.map (·.1) = R) (hW : post.map (·.1) = W)
    (k : RunOpsL P l ⟨putT T dst v, σ', n⟩ (acc ++ [(⟨R, W, [], []⟩, n, n)]) K) : RunOpsL P (⟨dst, .call true f xs, none⟩ :: l) ⟨T, σ, n⟩ acc K := by
  subst hR; subst hW; subst hσ
  simp only [RunOpsL]
  exact ⟨pre, post, v, n, _, hp.n n, hpre.pre, [], [], .inl rfl, fun c hc => by simp at hc, .inl rfl, k⟩

/-- Cells whose values stay, said one by one. -/
def KeepL (σ σ' : Store) : List Cl → Prop
  | [] => True
  | c :: l => (∀ k, loadAt σ' k (.ptr c.1 c.2.1 c.2.2) = loadAt σ k (.ptr c.1 c.2.1 c.2.2)) ∧ KeepL σ σ' l

theorem KeepL.ok {σ σ' : Store} {R : List Nat} : ∀ {Kp : List Cl}, KeepL σ σ' Kp → (Kp.all fun c => R.contains c.1) = true → KeepOk σ σ' R Kp
  | [], _, _, c, hc => by simp at hc
  | c0 :: l, h, hR, c, hc => by
    simp only [List.all_cons, Bool.and_eq_true] at hR
    rcases List.mem_cons.1 hc with rfl | hc
    · exact ⟨by simpa using hR.1, h.1⟩
    · exact KeepL.ok h.2 hR.2 c hc

def disB (a b : Ft × Nat × Nat) : Bool :=
  (a.1.W.all fun id => !b.1.R.contains id) && (b.1.W.all fun id => !a.1.R.contains id) && ((a.1.R ++ a.1.W).all fun id => !(decide (b.2.1 ≤ id) && decide (id < b.2.2))) && ((b.1.R ++ b.1.W).all fun id => !(decide (a.2.1 ≤ id) && decide (id < a.2.2)))

def cellB (f g : Ft) : Bool := (match f.C with
  | [c] => g.K.contains c
  | _ => false) || (match g.C with
  | [c] => f.K.contains c
  | _ => false)

def fokB (pairs : List (Nat × Nat)) (acc : FP) : Bool := pairs.all fun p => match acc[p.1]?, acc[p.2]? with
  | some a, some b => disB a b || cellB a.1 b.1
  | _, _ => false

theorem cellB_sound {f g : Ft} (h : cellB f g = true) : CellP f g := by
  unfold cellB at h
  rcases Bool.or_eq_true _ _ ▸ h with h | h
  · split at h
    · rename_i c hc; exact .inl ⟨c, hc, by simpa using h⟩
    · cases h
  · split at h
    · rename_i c hc; exact .inr ⟨c, hc, by simpa using h⟩
    · cases h

theorem fokB_sound {pairs : List (Nat × Nat)} {acc : FP} (h : fokB pairs acc = true) : FOk pairs acc := by
  intro p hp
  have := List.all_eq_true.1 h p hp
  split at this
  · rename_i a b ha hb
    refine ⟨a, b, ha, hb, ?_⟩
    rcases (Bool.or_eq_true _ _).mp this with this | this
    · refine .inl ?_
      simp [disB] at this
      obtain ⟨⟨⟨h1, h2⟩, h3⟩, h4⟩ := this
      refine ⟨fun id hid => h1 id hid, fun id hid => h2 id hid, fun id hid => ?_, fun id hid => ?_⟩
      · rintro ⟨g1, g2⟩
        rcases List.mem_append.1 hid with h | h
        · have := h3.1 id h; omega
        · have := h3.2 id h; omega
      · rintro ⟨g1, g2⟩
        rcases List.mem_append.1 hid with h | h
        · have := h4.1 id h; omega
        · have := h4.2 id h; omega
    · exact .inr (cellB_sound this)
  · cases this

theorem RunOpsL_mono {K K' : S → FP → Prop} : ∀ (l : List AInstr) (s : S) (acc : FP), (∀ s acc, K s acc → K' s acc) → RunOpsL P l s acc K → RunOpsL P l s acc K'
  | [], s, acc, hk, h => hk s acc h
  | i :: l, s, acc, hk, h => by
    have one : ∀ {K1 K2 : S → List Nat → List Nat → Prop} {op : AOp} {dst : Option Nat}, (∀ s r w, K1 s r w → K2 s r w) → RunOpL P op dst s K1 → RunOpL P op dst s K2 := by
      intro K1 K2 op dst hk h
      unfold RunOpL at h ⊢
      split at h
      · obtain ⟨pre, post, v, m, W, h1, h2, h3⟩ := h; exact ⟨pre, post, v, m, W, h1, h2, hk _ _ _ h3⟩
      · exact h
      · unfold RunOp at h ⊢
        split at h
        · obtain ⟨ds, r, h1, h2, h3⟩ := h; exact ⟨ds, r, h1, h2, hk _ _ _ h3⟩
        · obtain ⟨v, σ', n', h1, h2, h3⟩ := h; exact ⟨v, σ', n', h1, h2, hk _ _ _ h3⟩
        · obtain ⟨f, caps, ds, r, h0, h1, h2, h3⟩ := h; exact ⟨f, caps, ds, r, h0, h1, h2, hk _ _ _ h3⟩
        · obtain ⟨f, caps, v, σ', n', h0, h1, h2, h3⟩ := h; exact ⟨f, caps, v, σ', n', h0, h1, h2, hk _ _ _ h3⟩
        · split at h
          · exact hk _ _ _ h
          · exact h.elim
    unfold RunOpsL at h ⊢
    cases hg : i.guard with
    | none => rw [hg] at h; exact one (fun s r w ⟨C, Kp, h1, h2, h3, h4⟩ => ⟨C, Kp, h1, h2, h3, RunOpsL_mono l s _ hk h4⟩) h
    | some p =>
      obtain ⟨g, b⟩ := p
      rw [hg] at h
      simp only at h ⊢
      cases hb : guardV (s.T g) with
      | none => rw [hb] at h; exact h.elim
      | some b' =>
        rw [hb] at h
        simp only at h ⊢
        by_cases hbb : b' = some b
        · rw [if_pos hbb] at h ⊢; exact one (fun s r w ⟨C, Kp, h1, h2, h3, h4⟩ => ⟨C, Kp, h1, h2, h3, RunOpsL_mono l s _ hk h4⟩) h
        · rw [if_neg hbb] at h ⊢; exact RunOpsL_mono l _ _ hk h

theorem NWp.opsSE {Q : Exit → S → Prop} {s : S} (s0 : S) {pairs : List (Nat × Nat)} {l : List AInstr} (h : RunOpsL P l s [] fun s' acc => fokB pairs acc = true ∧ Norm na s' s0) (k : Q .normal s0) : NWp P N na (.opsS pairs l) Q s :=
  NWp.post (AWp.nwp (AWp.opsS (RunOpsL_mono l s [] (fun s' acc ⟨h1, h2⟩ => ⟨fokB_sound h1, s0, h2, k⟩) h)))

theorem NWp.opsSJ {Q : Exit → S → Prop} {s : S} (s0 : S) {pairs : List (Nat × Nat)} {l : List AInstr} {y : ACode} (h : RunOpsL P l s [] fun s' acc => fokB pairs acc = true ∧ Norm na s' s0) (k : NWp P N na y Q s0) : NWp P N na (.seq (.opsS pairs l) y) Q s :=
  NWp.seq (NWp.opsSE s0 h k)

/-! footprints of calls -/

theorem ViewB.grow {σ σ2 : Store} (hg : ∀ id blk, σ id = some blk → σ2 id = some blk) {v : V} {d : D} (h : ViewB σ v d) : ViewB σ2 v d := by
  induction h with
  | d x => exact .d x
  | sub _ hs ih => exact .sub ih hs
  | loc hid hle => exact .loc (hg _ _ hid) hle
  | var1 hid _ hs ih => exact .var1 (hg _ _ hid) ih hs
  | var hid hl _ ih => exact .var (hg _ _ hid) hl ih
  | elem hid hx => exact .elem (hg _ _ hid) hx
  | agg hl _ ih => exact .agg hl ih
  | func hl _ ih => exact .func hl ih

theorem ViewsB.grow {σ σ2 : Store} (hg : ∀ id blk, σ id = some blk → σ2 id = some blk) : ∀ {l : List V} {r : List D}, ViewsB σ l r → ViewsB σ2 l r
  | [], [], _ => trivial
  | v :: l, d :: r, h => ⟨h.1.grow hg, ViewsB.grow hg h.2⟩
  | [], _ :: _, h => h.elim
  | _ :: _, [], h => h.elim

end
end Go.AM
