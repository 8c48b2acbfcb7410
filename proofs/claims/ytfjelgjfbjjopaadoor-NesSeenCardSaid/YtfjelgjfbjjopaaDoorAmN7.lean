import Derived.Test.YtfjelgjfbjjopaaDoorAmN6
import Derived.Test.YtfjelgjfbjjopaaDoorAmSoft2
set_option linter.unusedVariables false
set_option linter.unusedSectionVars false
set_option linter.unusedSimpArgs false
namespace Go.AM
open Go Go.RowKit
variable [Glob]
section
variable {P : Program} {N na : Nat} {A : Nat → Nat → Prop} {μ μ' : Nat → Option bA} {T T' : Nat → V} {σ σ' : aB} {w w' : World} {a : Act} {n n' : Nat} {l : List bF} {dst : Option Nat} {op : bw} {K : S → FP → Prop} {acc : FP}
theorem wi {v : V} {σ' : aB} {n' : Nat} (R W : List Nat) (C : List Cl) (h : aD op (aE T) σ n = some (v, σ', n')) (hR : dU op (aE T) = R) (hW : dV op (aE T) = W) (hC : jf op (aE T) C) (hok : Ft.ok ⟨R, W, C, []⟩) (k : cx P l ⟨br T dst v, σ', n'⟩ (acc ++ [(⟨R, W, C, []⟩, n, n')]) K) : cx P (⟨dst, op, none⟩ :: l) ⟨T, σ, n⟩ acc K := by
  subst hR; subst hW
  simp only [cx]
  have k' : ∃ C Kp, jf op (aE T) C ∧ jg σ σ' (dU op (aE T)) Kp ∧ Ft.ok ⟨dU op (aE T), dV op (aE T), C, Kp⟩ ∧ cx P l ⟨br T dst v, σ', n'⟩ (acc ++ [(⟨dU op (aE T), dV op (aE T), C, Kp⟩, n, n')]) K := ⟨C, [], hC, fun c hc => by simp at hc, hok, k⟩
  unfold gM
  split
  · simp [aD] at h
  · simp [aD] at h
  · unfold fm
    split
    · simp [aD] at h
    · simp [aD] at h
    · simp [aD] at h
    · simp [aD] at h
    · simp only [h]; exact k'
theorem cu {v : V} {σ' : aB} {n' : Nat} (R W : List Nat) (h : aD op (aE T) σ n = some (v, σ', n')) (hR : dU op (aE T) = R) (hW : dV op (aE T) = W) (k : cx P l ⟨br T dst v, σ', n'⟩ (acc ++ [(⟨R, W, [], []⟩, n, n')]) K) : cx P (⟨dst, op, none⟩ :: l) ⟨T, σ, n⟩ acc K :=
  wi R W [] h hR hW (.inl rfl) (.inl rfl) k
theorem B2 {v : V} {q : Option Nat} {x : AX} {n' : Nat} {σ' : aB} (c : Cl) (h : aD (.load q x) (aE T) σ n = some (v, σ', n')) (hx : aE T x = .ptr c.1 c.2.1 c.2.2) (k : cx P l ⟨br T dst v, σ', n'⟩ (acc ++ [(⟨[c.1], [], [c], []⟩, n, n')]) K) : cx P (⟨dst, .load q x, none⟩ :: l) ⟨T, σ, n⟩ acc K :=
  wi [c.1] [] [c] h (by simp only [dU, hx, V.ids]) rfl (.inr ⟨q, x, c, rfl, hx, rfl⟩) (.inr ⟨c, rfl, rfl, rfl, rfl⟩) k
theorem cx.nil' (k : K ⟨T, σ, n⟩ acc) : cx P [] ⟨T, σ, n⟩ acc K := k
theorem de.pre : ∀ {pre : List (Nat × aP)}, de σ pre → ∀ p ∈ pre, σ p.1 = some p.2
  | [], _, p, hp => by cases hp
  | q :: pre, h, p, hp => by
    rcases List.mem_cons.1 hp with rfl | hp
    · exact h.1
    · exact de.pre h.2 p hp
theorem B3 {f : Nat} {xs : List AX} {v : V} {pre : List (Nat × aP)} {post : List (Nat × Option aP)} {σ' : aB} {R W : List Nat} (hp : oJ P f (xs.map (aE T)) pre v post) (hpre : de σ pre) (hσ : eD post σ = σ') (hR : pre.map (·.1) = R) (hW : post.map (·.1) = W)
    (k : cx P l ⟨br T dst v, σ', n⟩ (acc ++ [(⟨R, W, [], []⟩, n, n)]) K) : cx P (⟨dst, .call true f xs, none⟩ :: l) ⟨T, σ, n⟩ acc K := by
  subst hR; subst hW; subst hσ
  simp only [cx]
  exact ⟨pre, post, v, n, _, hp.n n, hpre.pre, [], [], .inl rfl, fun c hc => by simp at hc, .inl rfl, k⟩
def mw (σ σ' : aB) : List Cl → Prop
  | [] => True
  | c :: l => (∀ k, da σ' k (.ptr c.1 c.2.1 c.2.2) = da σ k (.ptr c.1 c.2.1 c.2.2)) ∧ mw σ σ' l
theorem mw.ok {σ σ' : aB} {R : List Nat} : ∀ {Kp : List Cl}, mw σ σ' Kp → (Kp.all fun c => R.contains c.1) = true → jg σ σ' R Kp
  | [], _, _, c, hc => by simp at hc
  | c0 :: l, h, hR, c, hc => by
    simp only [List.all_cons, Bool.and_eq_true] at hR
    rcases List.mem_cons.1 hc with rfl | hc
    · exact ⟨by simpa using hR.1, h.1⟩
    · exact mw.ok h.2 hR.2 c hc
theorem wj {f : Nat} {xs : List AX} {v : V} {pre : List (Nat × aP)} {post : List (Nat × Option aP)} {σ' : aB} {R W : List Nat} {m : Nat} (Kp : List Cl) (hp : mu P f (xs.map (aE T)) pre v post n m W) (hpre : de σ pre) (hσ : eD post σ = σ') (hR : pre.map (·.1) = R) (hk : mw σ σ' Kp) (hkr : (Kp.all fun c => R.contains c.1) = true)
    (k : cx P l ⟨br T dst v, σ', m⟩ (acc ++ [(⟨R, W, [], Kp⟩, n, m)]) K) : cx P (⟨dst, .call true f xs, none⟩ :: l) ⟨T, σ, n⟩ acc K := by
  subst hR; subst hσ
  simp only [cx]
  exact ⟨pre, post, v, m, _, hp, hpre.pre, [], Kp, .inl rfl, hk.ok hkr, .inl rfl, k⟩
theorem wk {f : Nat} {xs : List AX} {v : V} {pre : List (Nat × aP)} {post : List (Nat × Option aP)} {σ' : aB} {R W : List Nat} {m : Nat} (hp : mu P f (xs.map (aE T)) pre v post n m W) (hpre : de σ pre) (hσ : eD post σ = σ') (hR : pre.map (·.1) = R)
    (k : cx P l ⟨br T dst v, σ', m⟩ (acc ++ [(⟨R, W, [], []⟩, n, m)]) K) : cx P (⟨dst, .call true f xs, none⟩ :: l) ⟨T, σ, n⟩ acc K :=
  wj [] hp hpre hσ hR trivial rfl k
def wl (a b : Ft × Nat × Nat) : Bool :=
  (a.1.W.all fun id => !b.1.R.contains id) && (b.1.W.all fun id => !a.1.R.contains id) && ((a.1.R ++ a.1.W).all fun id => !(decide (b.2.1 ≤ id) && decide (id < b.2.2))) && ((b.1.R ++ b.1.W).all fun id => !(decide (a.2.1 ≤ id) && decide (id < a.2.2)))
def ry (f g : Ft) : Bool := (match f.C with
  | [c] => g.K.contains c
  | _ => false) || (match g.C with
  | [c] => f.K.contains c
  | _ => false)
def rz (pairs : List (Nat × Nat)) (acc : FP) : Bool := pairs.all fun p => match acc[p.1]?, acc[p.2]? with
  | some a, some b => wl a b || ry a.1 b.1
  | _, _ => false
theorem B4 {f g : Ft} (h : ry f g = true) : kR f g := by
  unfold ry at h
  rcases Bool.or_eq_true _ _ ▸ h with h | h
  · split at h
    · rename_i c hc; exact .inl ⟨c, hc, by simpa using h⟩
    · cases h
  · split at h
    · rename_i c hc; exact .inr ⟨c, hc, by simpa using h⟩
    · cases h
theorem B5 {pairs : List (Nat × Nat)} {acc : FP} (h : rz pairs acc = true) : wg pairs acc := by
  intro p hp
  have := List.all_eq_true.1 h p hp
  split at this
  · rename_i a b ha hb
    refine ⟨a, b, ha, hb, ?_⟩
    rcases (Bool.or_eq_true _ _).mp this with this | this
    · refine .inl ?_
      simp [wl] at this
      obtain ⟨⟨⟨h1, h2⟩, h3⟩, h4⟩ := this
      refine ⟨fun id hid => h1 id hid, fun id hid => h2 id hid, fun id hid => ?_, fun id hid => ?_⟩
      · rintro ⟨g1, g2⟩
        rcases List.mem_append.1 hid with h | h
        · have := h3.1 id h; omega
        · have := h3.2 id h; omega
      · rintro ⟨g1, g2⟩
        rcases List.mem_append.1 hid with h | h
        · have := h4.1 id h; omega
        · have := h4.2 id h; omega
    · exact .inr (B4 this)
  · cases this
theorem oK {K K' : S → FP → Prop} : ∀ (l : List bF) (s : S) (acc : FP), (∀ s acc, K s acc → K' s acc) → cx P l s acc K → cx P l s acc K'
  | [], s, acc, hk, h => hk s acc h
  | i :: l, s, acc, hk, h => by
    have one : ∀ {K1 K2 : S → List Nat → List Nat → Prop} {op : bw} {dst : Option Nat}, (∀ s r w, K1 s r w → K2 s r w) → gM P op dst s K1 → gM P op dst s K2 := by
      intro K1 K2 op dst hk h
      unfold gM at h ⊢
      split at h
      · obtain ⟨pre, post, v, m, W, h1, h2, h3⟩ := h; exact ⟨pre, post, v, m, W, h1, h2, hk _ _ _ h3⟩
      · exact h
      · unfold fm at h ⊢
        split at h
        · obtain ⟨ds, r, h1, h2, h3⟩ := h; exact ⟨ds, r, h1, h2, hk _ _ _ h3⟩
        · obtain ⟨v, σ', n', h1, h2, h3⟩ := h; exact ⟨v, σ', n', h1, h2, hk _ _ _ h3⟩
        · obtain ⟨f, caps, ds, r, h0, h1, h2, h3⟩ := h; exact ⟨f, caps, ds, r, h0, h1, h2, hk _ _ _ h3⟩
        · obtain ⟨f, caps, v, σ', n', h0, h1, h2, h3⟩ := h; exact ⟨f, caps, v, σ', n', h0, h1, h2, hk _ _ _ h3⟩
        · split at h
          · exact hk _ _ _ h
          · exact h.elim
    unfold cx at h ⊢
    cases hg : i.guard with
    | none => rw [hg] at h; exact one (fun s r w ⟨C, Kp, h1, h2, h3, h4⟩ => ⟨C, Kp, h1, h2, h3, oK l s _ hk h4⟩) h
    | some p =>
      obtain ⟨g, b⟩ := p
      rw [hg] at h
      simp only at h ⊢
      cases hb : io (s.T g) with
      | none => rw [hb] at h; exact h.elim
      | some b' =>
        rw [hb] at h
        simp only at h ⊢
        by_cases hbb : b' = some b
        · rw [if_pos hbb] at h ⊢; exact one (fun s r w ⟨C, Kp, h1, h2, h3, h4⟩ => ⟨C, Kp, h1, h2, h3, oK l s _ hk h4⟩) h
        · rw [if_neg hbb] at h ⊢; exact oK l _ _ hk h
theorem B6 {Q : Exit → S → Prop} {s : S} (s0 : S) {pairs : List (Nat × Nat)} {l : List bF} (h : cx P l s [] fun s' acc => rz pairs acc = true ∧ bJ na s' s0) (k : Q .normal s0) : bD P N na (.opsS pairs l) Q s :=
  bD.post (co.nwp (co.opsS (oK l s [] (fun s' acc ⟨h1, h2⟩ => ⟨B5 h1, s0, h2, k⟩) h)))
theorem rA {Q : Exit → S → Prop} {s : S} (s0 : S) {pairs : List (Nat × Nat)} {l : List bF} {y : bI} (h : cx P l s [] fun s' acc => rz pairs acc = true ∧ bJ na s' s0) (k : bD P N na y Q s0) : bD P N na (.seq (.opsS pairs l) y) Q s :=
  aF (B6 s0 h k)
theorem rB : ∀ {bl : List (Nat × aP)} {id : Nat} {b : aP}, ag bl id = some b → (id, b) ∈ bl
  | [], _, _, h => by cases h
  | (s, v) :: bl, id, b, h => by
    simp only [ag] at h
    split at h
    · rename_i e; subst e; cases h; simp
    · exact List.mem_cons_of_mem _ (rB h)
theorem dP.grow {σ σ2 : aB} (hg : ∀ id blk, σ id = some blk → σ2 id = some blk) {v : V} {d : D} (h : dP σ v d) : dP σ2 v d := by
  induction h with
  | d x => exact .d x
  | sub _ hs ih => exact .sub ih hs
  | loc hid hle => exact .loc (hg _ _ hid) hle
  | var1 hid _ hs ih => exact .var1 (hg _ _ hid) ih hs
  | var hid hl _ ih => exact .var (hg _ _ hid) hl ih
  | elem hid hx => exact .elem (hg _ _ hid) hx
  | agg hl _ ih => exact .agg hl ih
  | func hl _ ih => exact .func hl ih
theorem dY.grow {σ σ2 : aB} (hg : ∀ id blk, σ id = some blk → σ2 id = some blk) : ∀ {l : List V} {r : List D}, dY σ l r → dY σ2 l r
  | [], [], _ => trivial
  | v :: l, d :: r, h => ⟨h.1.grow hg, dY.grow hg h.2⟩
  | [], _ :: _, h => h.elim
  | _ :: _, [], h => h.elim
theorem B7 {f : Nat} {vals vals0 : List V} {bl bl' : List (Nat × aP)} {v0 : V} (rl : List Nat) (h : bZ P f vals0 (ag bl) rl.length v0 (ag bl') rl.length) (hnd : rl.Nodup) (hdom : ∀ p ∈ bl', p.1 < rl.length) (hcov : bl.map (·.1) = List.range rl.length)
    (pre : List (Nat × aP)) (hpre : pre.map (·.1) = rl) (hv : ar (rn rl) rl.length vals vals0) (hσ : SN (rn rl) rl.length (ag pre) bl) (v : V) (hv0 : ∀ n, v0.ren (up rl n) = v) (post : List (Nat × Option aP)) (hin : ∀ p ∈ post, p.1 ∈ rl) (hpost : ∀ n σ, e8 (up rl n) bl' (rem rl σ) = eD post σ) : oJ P f vals pre v post := by
  refine ⟨fun p hp => ?_, fun σ n hp => ?_⟩
  · have := hin p hp
    rw [← hpre] at this
    obtain ⟨q, hq, e⟩ := List.mem_map.1 this
    exact ⟨q, hq, e⟩
  · have hσ2 : SN (rn rl) rl.length σ bl := by
      have key : ∀ {bl : List (Nat × aP)}, SN (rn rl) rl.length (ag pre) bl → SN (rn rl) rl.length σ bl := by
        intro bl
        induction bl with
        | nil => intro _; trivial
        | cons q bl ih =>
          intro h
          obtain ⟨⟨h1, b', h2, h3⟩, h4⟩ := h
          exact ⟨⟨h1, b', hp _ (rB h2), h3⟩, ih h4⟩
      exact key hσ
    -- the names that it would make are none
    have hb : ∀ l : List Nat, ∃ m, ∀ i ∈ l, i < m := by
      intro l
      induction l with
      | nil => exact ⟨0, fun i h => by simp at h⟩
      | cons a l ih =>
        obtain ⟨m, hm⟩ := ih
        exact ⟨max m (a + 1), fun i h => by
          rcases List.mem_cons.1 h with rfl | h
          · omega
          · have := hm i h; omega⟩
    obtain ⟨m, hlt⟩ := hb rl
    have := fo (n := m) rl h (Nat.le_refl _) hnd hlt hdom hv hσ2
    rw [hpost m σ, hv0 m, Nat.sub_self, Nat.add_zero] at this
    refine ⟨h.1, fun A μ w vs hs hfr hlen hrel => ?_⟩
    refine (this.2 A μ w vs hs (fun id h1 h2 => by omega) hlen hrel).mono fun e w' ⟨cv, μ', h1, h2, h3, h4, h5⟩ => ⟨cv, μ', h1, h2, h3, h4, fun id hid => ?_⟩
    rcases h5 id hid with h | h
    · exact .inl h
    · omega
theorem rC {f : Nat} {vals vals0 : List V} {bl bl' : List (Nat × aP)} {v0 : V} {n0' : Nat} (rl : List Nat) (h : bZ P f vals0 (ag bl) rl.length v0 (ag bl') n0') (hn0 : rl.length < n0') (hnd : rl.Nodup) (hlt : ∀ i ∈ rl, i < n) (hdom : ∀ p ∈ bl', p.1 < n0')
    (pre : List (Nat × aP)) (hpre : pre.map (·.1) = rl) (hv : ar (rn rl) rl.length vals vals0) (hσ : SN (rn rl) rl.length (ag pre) bl) (v : V) (hv0 : v0.ren (up rl n) = v) (post : List (Nat × Option aP)) (W : List Nat) (m : Nat) (hm : n + (n0' - rl.length) = m)
    (hin : (post.all fun p => W.contains p.1 || (decide (n ≤ p.1) && decide (p.1 < m))) = true) (hW : (W.all fun i => rl.contains i) = true) (hcov : ((List.range (m - n)).all fun i => (post.map (·.1)).contains (n + i)) = true)
    (hpost : ∀ σ, e8 (up rl n) bl' (rem rl σ) = eD post σ) : mu P f vals pre v post n m W := by
  subst hm
  refine ⟨by omega, fun p hp => ?_, fun id hid => ?_, fun id hid => ?_, fun σ hp => ?_⟩
  · have := List.all_eq_true.1 hin p hp
    simp at this
    exact this
  · have := List.all_eq_true.1 hW id hid
    rw [hpre]
    simpa using this
  · have := List.all_eq_true.1 hcov (id - n) (by have := hid.1; have := hid.2; simp; omega)
    rw [show n + (id - n) = id by have := hid.1; omega] at this
    simpa using this
  · have hσ2 : SN (rn rl) rl.length σ bl := by
      have key : ∀ {bl : List (Nat × aP)}, SN (rn rl) rl.length (ag pre) bl → SN (rn rl) rl.length σ bl := by
        intro bl
        induction bl with
        | nil => intro _; trivial
        | cons q bl ih =>
          intro h
          obtain ⟨⟨h1, b', h2, h3⟩, h4⟩ := h
          exact ⟨⟨h1, b', hp _ (rB h2), h3⟩, ih h4⟩
      exact key hσ
    have := fo (n := n) rl h (Nat.le_of_lt hn0) hnd hlt hdom hv hσ2
    rw [hpost σ, hv0] at this
    exact this
end
end Go.AM
