import Derived.Test.YtnnkfanmokeiaaaAmN6
import Derived.Test.YtnnkfanmokeiaaaAmSoft2
set_option linter.unusedVariables false
set_option linter.unusedSectionVars false
set_option linter.unusedSimpArgs false
namespace Go.AM
open Go Go.RowKit
variable [Glob]
section
variable {P : Program} {N na : Nat} {A : Nat → Nat → Prop} {μ μ' : Nat → Option bg} {T T' : Nat → V} {σ σ' : az} {w w' : World} {a : Act} {n n' : Nat} {l : List bo} {dst : Option Nat} {op : a9} {K : S → FP → Prop} {acc : FP}
theorem rz {v : V} {σ' : az} {n' : Nat} (R W : List Nat) (C : List Cl) (h : aB op (aE T) σ n = some (v, σ', n')) (hR : cR op (aE T) = R) (hW : cP op (aE T) = W) (hC : fu op (aE T) C) (hok : Ft.ok ⟨R, W, C, []⟩) (k : bX P l ⟨ba T dst v, σ', n'⟩ (acc ++ [(⟨R, W, C, []⟩, n, n')]) K) : bX P (⟨dst, op, none⟩ :: l) ⟨T, σ, n⟩ acc K := by
  subst hR; subst hW
  simp only [bX]
  have k' : ∃ C Kp, fu op (aE T) C ∧ fv σ σ' (cR op (aE T)) Kp ∧ Ft.ok ⟨cR op (aE T), cP op (aE T), C, Kp⟩ ∧ bX P l ⟨ba T dst v, σ', n'⟩ (acc ++ [(⟨cR op (aE T), cP op (aE T), C, Kp⟩, n, n')]) K := ⟨C, [], hC, fun c hc => by simp at hc, hok, k⟩
  unfold eF
  split
  · simp [aB] at h
  · simp [aB] at h
  · unfold dq
    split
    · simp [aB] at h
    · simp [aB] at h
    · simp [aB] at h
    · simp [aB] at h
    · simp only [h]; exact k'
theorem bM {v : V} {σ' : az} {n' : Nat} (R W : List Nat) (h : aB op (aE T) σ n = some (v, σ', n')) (hR : cR op (aE T) = R) (hW : cP op (aE T) = W) (k : bX P l ⟨ba T dst v, σ', n'⟩ (acc ++ [(⟨R, W, [], []⟩, n, n')]) K) : bX P (⟨dst, op, none⟩ :: l) ⟨T, σ, n⟩ acc K :=
  rz R W [] h hR hW (.inl rfl) (.inl rfl) k
theorem bX.nil' (k : K ⟨T, σ, n⟩ acc) : bX P [] ⟨T, σ, n⟩ acc K := k
theorem ct.pre : ∀ {pre : List (Nat × aQ)}, ct σ pre → ∀ p ∈ pre, σ p.1 = some p.2
  | [], _, p, hp => by cases hp
  | q :: pre, h, p, hp => by
    rcases List.mem_cons.1 hp with rfl | hp
    · exact h.1
    · exact ct.pre h.2 p hp
def g8 (σ σ' : az) : List Cl → Prop
  | [] => True
  | c :: l => (∀ k, cd σ' k (.ptr c.1 c.2.1 c.2.2) = cd σ k (.ptr c.1 c.2.1 c.2.2)) ∧ g8 σ σ' l
theorem g8.ok {σ σ' : az} {R : List Nat} : ∀ {Kp : List Cl}, g8 σ σ' Kp → (Kp.all fun c => R.contains c.1) = true → fv σ σ' R Kp
  | [], _, _, c, hc => by simp at hc
  | c0 :: l, h, hR, c, hc => by
    simp only [List.all_cons, Bool.and_eq_true] at hR
    rcases List.mem_cons.1 hc with rfl | hc
    · exact ⟨by simpa using hR.1, h.1⟩
    · exact g8.ok h.2 hR.2 c hc
theorem rA {f : Nat} {xs : List AX} {v : V} {pre : List (Nat × aQ)} {post : List (Nat × Option aQ)} {σ' : az} {R W : List Nat} {m : Nat} (Kp : List Cl) (hp : eT P f (xs.map (aE T)) pre v post n m W) (hpre : ct σ pre) (hσ : dg post σ = σ') (hR : pre.map (·.1) = R) (hk : g8 σ σ' Kp) (hkr : (Kp.all fun c => R.contains c.1) = true)
    (k : bX P l ⟨ba T dst v, σ', m⟩ (acc ++ [(⟨R, W, [], Kp⟩, n, m)]) K) : bX P (⟨dst, .call true f xs, none⟩ :: l) ⟨T, σ, n⟩ acc K := by
  subst hR; subst hσ
  simp only [bX]
  exact ⟨pre, post, v, m, _, hp, hpre.pre, [], Kp, .inl rfl, hk.ok hkr, .inl rfl, k⟩
theorem iT {f : Nat} {xs : List AX} {v : V} {pre : List (Nat × aQ)} {post : List (Nat × Option aQ)} {σ' : az} {R W : List Nat} {m : Nat} (hp : eT P f (xs.map (aE T)) pre v post n m W) (hpre : ct σ pre) (hσ : dg post σ = σ') (hR : pre.map (·.1) = R)
    (k : bX P l ⟨ba T dst v, σ', m⟩ (acc ++ [(⟨R, W, [], []⟩, n, m)]) K) : bX P (⟨dst, .call true f xs, none⟩ :: l) ⟨T, σ, n⟩ acc K :=
  rA [] hp hpre hσ hR trivial rfl k
def nO (a b : Ft × Nat × Nat) : Bool :=
  (a.1.W.all fun id => !b.1.R.contains id) && (b.1.W.all fun id => !a.1.R.contains id) && ((a.1.R ++ a.1.W).all fun id => !(decide (b.2.1 ≤ id) && decide (id < b.2.2))) && ((b.1.R ++ b.1.W).all fun id => !(decide (a.2.1 ≤ id) && decide (id < a.2.2)))
def kD (f g : Ft) : Bool := (match f.C with
  | [c] => g.K.contains c
  | _ => false) || (match g.C with
  | [c] => f.K.contains c
  | _ => false)
def nP (pairs : List (Nat × Nat)) (acc : FP) : Bool := pairs.all fun p => match acc[p.1]?, acc[p.2]? with
  | some a, some b => nO a b || kD a.1 b.1
  | _, _ => false
theorem rB {f g : Ft} (h : kD f g = true) : gq f g := by
  unfold kD at h
  rcases Bool.or_eq_true _ _ ▸ h with h | h
  · split at h
    · rename_i c hc; exact .inl ⟨c, hc, by simpa using h⟩
    · cases h
  · split at h
    · rename_i c hc; exact .inr ⟨c, hc, by simpa using h⟩
    · cases h
theorem rC {pairs : List (Nat × Nat)} {acc : FP} (h : nP pairs acc = true) : nN pairs acc := by
  intro p hp
  have := List.all_eq_true.1 h p hp
  split at this
  · rename_i a b ha hb
    refine ⟨a, b, ha, hb, ?_⟩
    rcases (Bool.or_eq_true _ _).mp this with this | this
    · refine .inl ?_
      simp [nO] at this
      obtain ⟨⟨⟨h1, h2⟩, h3⟩, h4⟩ := this
      refine ⟨fun id hid => h1 id hid, fun id hid => h2 id hid, fun id hid => ?_, fun id hid => ?_⟩
      · rintro ⟨g1, g2⟩
        rcases List.mem_append.1 hid with h | h
        · have := h3.1 id h; omega
        · have := h3.2 id h; omega
      · rintro ⟨g1, g2⟩
        rcases List.mem_append.1 hid with h | h
        · have := h4.1 id h; omega
        · have := h4.2 id h; omega
    · exact .inr (rB this)
  · cases this
theorem iU {K K' : S → FP → Prop} : ∀ (l : List bo) (s : S) (acc : FP), (∀ s acc, K s acc → K' s acc) → bX P l s acc K → bX P l s acc K'
  | [], s, acc, hk, h => hk s acc h
  | i :: l, s, acc, hk, h => by
    have one : ∀ {K1 K2 : S → List Nat → List Nat → Prop} {op : a9} {dst : Option Nat}, (∀ s r w, K1 s r w → K2 s r w) → eF P op dst s K1 → eF P op dst s K2 := by
      intro K1 K2 op dst hk h
      unfold eF at h ⊢
      split at h
      · obtain ⟨pre, post, v, m, W, h1, h2, h3⟩ := h; exact ⟨pre, post, v, m, W, h1, h2, hk _ _ _ h3⟩
      · exact h
      · unfold dq at h ⊢
        split at h
        · obtain ⟨ds, r, h1, h2, h3⟩ := h; exact ⟨ds, r, h1, h2, hk _ _ _ h3⟩
        · obtain ⟨v, σ', n', h1, h2, h3⟩ := h; exact ⟨v, σ', n', h1, h2, hk _ _ _ h3⟩
        · obtain ⟨f, caps, ds, r, h0, h1, h2, h3⟩ := h; exact ⟨f, caps, ds, r, h0, h1, h2, hk _ _ _ h3⟩
        · obtain ⟨f, caps, v, σ', n', h0, h1, h2, h3⟩ := h; exact ⟨f, caps, v, σ', n', h0, h1, h2, hk _ _ _ h3⟩
        · split at h
          · exact hk _ _ _ h
          · exact h.elim
    unfold bX at h ⊢
    cases hg : i.guard with
    | none => rw [hg] at h; exact one (fun s r w ⟨C, Kp, h1, h2, h3, h4⟩ => ⟨C, Kp, h1, h2, h3, iU l s _ hk h4⟩) h
    | some p =>
      obtain ⟨g, b⟩ := p
      rw [hg] at h
      simp only at h ⊢
      cases hb : e9 (s.T g) with
      | none => rw [hb] at h; exact h.elim
      | some b' =>
        rw [hb] at h
        simp only at h ⊢
        by_cases hbb : b' = some b
        · rw [if_pos hbb] at h ⊢; exact one (fun s r w ⟨C, Kp, h1, h2, h3, h4⟩ => ⟨C, Kp, h1, h2, h3, iU l s _ hk h4⟩) h
        · rw [if_neg hbb] at h ⊢; exact iU l _ _ hk h
theorem iV {Q : Exit → S → Prop} {s : S} (s0 : S) {pairs : List (Nat × Nat)} {l : List bo} (h : bX P l s [] fun s' acc => nP pairs acc = true ∧ bK na s' s0) (k : Q .normal s0) : aK P N na (.opsS pairs l) Q s :=
  aK.post (bH.nwp (bH.opsS (iU l s [] (fun s' acc ⟨h1, h2⟩ => ⟨rC h1, s0, h2, k⟩) h)))
theorem nQ : ∀ {bl : List (Nat × aQ)} {id : Nat} {b : aQ}, ac bl id = some b → (id, b) ∈ bl
  | [], _, _, h => by cases h
  | (s, v) :: bl, id, b, h => by
    simp only [ac] at h
    split at h
    · rename_i e; subst e; cases h; simp
    · exact List.mem_cons_of_mem _ (nQ h)
theorem cN.grow {σ σ2 : az} (hg : ∀ id blk, σ id = some blk → σ2 id = some blk) {v : V} {d : D} (h : cN σ v d) : cN σ2 v d := by
  induction h with
  | d x => exact .d x
  | sub _ hs ih => exact .sub ih hs
  | loc hid hle => exact .loc (hg _ _ hid) hle
  | var1 hid _ hs ih => exact .var1 (hg _ _ hid) ih hs
  | var hid hl _ ih => exact .var (hg _ _ hid) hl ih
  | elem hid hx => exact .elem (hg _ _ hid) hx
  | agg hl _ ih => exact .agg hl ih
  | func hl _ ih => exact .func hl ih
theorem dS.grow {σ σ2 : az} (hg : ∀ id blk, σ id = some blk → σ2 id = some blk) : ∀ {l : List V} {r : List D}, dS σ l r → dS σ2 l r
  | [], [], _ => trivial
  | v :: l, d :: r, h => ⟨h.1.grow hg, dS.grow hg h.2⟩
  | [], _ :: _, h => h.elim
  | _ :: _, [], h => h.elim
theorem iW {f : Nat} {vals vals0 : List V} {bl bl' : List (Nat × aQ)} {v0 : V} {n0' : Nat} (rl : List Nat) (h : bO P f vals0 (ac bl) rl.length v0 (ac bl') n0') (hn0 : rl.length < n0') (hnd : rl.Nodup) (hlt : ∀ i ∈ rl, i < n) (hdom : ∀ p ∈ bl', p.1 < n0')
    (pre : List (Nat × aQ)) (hpre : pre.map (·.1) = rl) (hv : aY (rn rl) rl.length vals vals0) (hσ : SN (rn rl) rl.length (ac pre) bl) (v : V) (hv0 : v0.ren (up rl n) = v) (post : List (Nat × Option aQ)) (W : List Nat) (m : Nat) (hm : n + (n0' - rl.length) = m)
    (hin : (post.all fun p => W.contains p.1 || (decide (n ≤ p.1) && decide (p.1 < m))) = true) (hW : (W.all fun i => rl.contains i) = true) (hcov : ((List.range (m - n)).all fun i => (post.map (·.1)).contains (n + i)) = true)
    (hpost : ∀ σ, dQ (up rl n) bl' (rem rl σ) = dg post σ) : eT P f vals pre v post n m W := by
  subst hm
  refine ⟨by omega, fun p hp => ?_, fun id hid => ?_, fun id hid => ?_, fun σ hp => ?_⟩
  · have := List.all_eq_true.1 hin p hp
    simp at this
    exact this
  · have := List.all_eq_true.1 hW id hid
    rw [hpre]
    simpa using this
  · have := List.all_eq_true.1 hcov (id - n) (by have := hid.1; have := hid.2; simp; omega)
    rw [show n + (id - n) = id by have := hid.1; omega] at this
    simpa using this
  · have hσ2 : SN (rn rl) rl.length σ bl := by
      have key : ∀ {bl : List (Nat × aQ)}, SN (rn rl) rl.length (ac pre) bl → SN (rn rl) rl.length σ bl := by
        intro bl
        induction bl with
        | nil => intro _; trivial
        | cons q bl ih =>
          intro h
          obtain ⟨⟨h1, b', h2, h3⟩, h4⟩ := h
          exact ⟨⟨h1, b', hp _ (nQ h2), h3⟩, ih h4⟩
      exact key hσ
    have := eC (n := n) rl h (Nat.le_of_lt hn0) hnd hlt hdom hv hσ2
    rw [hpost σ, hv0] at this
    exact this
end
end Go.AM
