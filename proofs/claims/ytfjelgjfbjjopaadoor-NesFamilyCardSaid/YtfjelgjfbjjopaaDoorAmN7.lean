import Derived.Test.YtfjelgjfbjjopaaDoorAmN6
import Derived.Test.YtfjelgjfbjjopaaDoorAmSoft2
set_option linter.unusedVariables false
set_option linter.unusedSectionVars false
set_option linter.unusedSimpArgs false
namespace Go.AM
open Go Go.RowKit
variable [Glob]
section
variable {P : Program} {N na : Nat} {A : Nat → Nat → Prop} {μ μ' : Nat → Option bF} {T T' : Nat → V} {σ σ' : aD} {w w' : World} {a : Act} {n n' : Nat} {l : List bJ} {dst : Option Nat} {op : bA} {K : S → FP → Prop} {acc : FP}
theorem wo {v : V} {σ' : aD} {n' : Nat} (R W : List Nat) (C : List Cl) (h : aF op (aG T) σ n = some (v, σ', n')) (hR : ew op (aG T) = R) (hW : ex op (aG T) = W) (hC : jw op (aG T) C) (hok : Ft.ok ⟨R, W, C, []⟩) (k : cC P l ⟨bu T dst v, σ', n'⟩ (acc ++ [(⟨R, W, C, []⟩, n, n')]) K) : cC P (⟨dst, op, none⟩ :: l) ⟨T, σ, n⟩ acc K := by
  subst hR; subst hW
  simp only [cC]
  have k' : ∃ C Kp, jw op (aG T) C ∧ jx σ σ' (ew op (aG T)) Kp ∧ Ft.ok ⟨ew op (aG T), ex op (aG T), C, Kp⟩ ∧ cC P l ⟨bu T dst v, σ', n'⟩ (acc ++ [(⟨ew op (aG T), ex op (aG T), C, Kp⟩, n, n')]) K := ⟨C, [], hC, fun c hc => by simp at hc, hok, k⟩
  unfold gZ
  split
  · simp [aF] at h
  · simp [aF] at h
  · unfold fA
    split
    · simp [aF] at h
    · simp [aF] at h
    · simp [aF] at h
    · simp [aF] at h
    · simp only [h]; exact k'
theorem cA {v : V} {σ' : aD} {n' : Nat} (R W : List Nat) (h : aF op (aG T) σ n = some (v, σ', n')) (hR : ew op (aG T) = R) (hW : ex op (aG T) = W) (k : cC P l ⟨bu T dst v, σ', n'⟩ (acc ++ [(⟨R, W, [], []⟩, n, n')]) K) : cC P (⟨dst, op, none⟩ :: l) ⟨T, σ, n⟩ acc K :=
  wo R W [] h hR hW (.inl rfl) (.inl rfl) k
theorem B5 {v : V} {q : Option Nat} {x : AX} {n' : Nat} {σ' : aD} (c : Cl) (h : aF (.load q x) (aG T) σ n = some (v, σ', n')) (hx : aG T x = .ptr c.1 c.2.1 c.2.2) (k : cC P l ⟨bu T dst v, σ', n'⟩ (acc ++ [(⟨[c.1], [], [c], []⟩, n, n')]) K) : cC P (⟨dst, .load q x, none⟩ :: l) ⟨T, σ, n⟩ acc K :=
  wo [c.1] [] [c] h (by simp only [ew, hx, V.ids]) rfl (.inr ⟨q, x, c, rfl, hx, rfl⟩) (.inr ⟨c, rfl, rfl, rfl, rfl⟩) k
theorem cC.nil' (k : K ⟨T, σ, n⟩ acc) : cC P [] ⟨T, σ, n⟩ acc K := k
theorem dm.pre : ∀ {pre : List (Nat × aS)}, dm σ pre → ∀ p ∈ pre, σ p.1 = some p.2
  | [], _, p, hp => by cases hp
  | q :: pre, h, p, hp => by
    rcases List.mem_cons.1 hp with rfl | hp
    · exact h.1
    · exact dm.pre h.2 p hp
theorem B6 {f : Nat} {xs : List AX} {v : V} {pre : List (Nat × aS)} {post : List (Nat × Option aS)} {σ' : aD} {R W : List Nat} (hp : oX P f (xs.map (aG T)) pre v post) (hpre : dm σ pre) (hσ : eR post σ = σ') (hR : pre.map (·.1) = R) (hW : post.map (·.1) = W)
    (k : cC P l ⟨bu T dst v, σ', n⟩ (acc ++ [(⟨R, W, [], []⟩, n, n)]) K) : cC P (⟨dst, .call true f xs, none⟩ :: l) ⟨T, σ, n⟩ acc K := by
  subst hR; subst hW; subst hσ
  simp only [cC]
  exact ⟨pre, post, v, n, _, hp.n n, hpre.pre, [], [], .inl rfl, fun c hc => by simp at hc, .inl rfl, k⟩
def mO (σ σ' : aD) : List Cl → Prop
  | [] => True
  | c :: l => (∀ k, dh σ' k (.ptr c.1 c.2.1 c.2.2) = dh σ k (.ptr c.1 c.2.1 c.2.2)) ∧ mO σ σ' l
theorem mO.ok {σ σ' : aD} {R : List Nat} : ∀ {Kp : List Cl}, mO σ σ' Kp → (Kp.all fun c => R.contains c.1) = true → jx σ σ' R Kp
  | [], _, _, c, hc => by simp at hc
  | c0 :: l, h, hR, c, hc => by
    simp only [List.all_cons, Bool.and_eq_true] at hR
    rcases List.mem_cons.1 hc with rfl | hc
    · exact ⟨by simpa using hR.1, h.1⟩
    · exact mO.ok h.2 hR.2 c hc
theorem wq {f : Nat} {xs : List AX} {v : V} {pre : List (Nat × aS)} {post : List (Nat × Option aS)} {σ' : aD} {R W : List Nat} {m : Nat} (Kp : List Cl) (hp : mN P f (xs.map (aG T)) pre v post n m W) (hpre : dm σ pre) (hσ : eR post σ = σ') (hR : pre.map (·.1) = R) (hk : mO σ σ' Kp) (hkr : (Kp.all fun c => R.contains c.1) = true)
    (k : cC P l ⟨bu T dst v, σ', m⟩ (acc ++ [(⟨R, W, [], Kp⟩, n, m)]) K) : cC P (⟨dst, .call true f xs, none⟩ :: l) ⟨T, σ, n⟩ acc K := by
  subst hR; subst hσ
  simp only [cC]
  exact ⟨pre, post, v, m, _, hp, hpre.pre, [], Kp, .inl rfl, hk.ok hkr, .inl rfl, k⟩
theorem wr {f : Nat} {xs : List AX} {v : V} {pre : List (Nat × aS)} {post : List (Nat × Option aS)} {σ' : aD} {R W : List Nat} {m : Nat} (hp : mN P f (xs.map (aG T)) pre v post n m W) (hpre : dm σ pre) (hσ : eR post σ = σ') (hR : pre.map (·.1) = R)
    (k : cC P l ⟨bu T dst v, σ', m⟩ (acc ++ [(⟨R, W, [], []⟩, n, m)]) K) : cC P (⟨dst, .call true f xs, none⟩ :: l) ⟨T, σ, n⟩ acc K :=
  wq [] hp hpre hσ hR trivial rfl k
def ws (a b : Ft × Nat × Nat) : Bool :=
  (a.1.W.all fun id => !b.1.R.contains id) && (b.1.W.all fun id => !a.1.R.contains id) && ((a.1.R ++ a.1.W).all fun id => !(decide (b.2.1 ≤ id) && decide (id < b.2.2))) && ((b.1.R ++ b.1.W).all fun id => !(decide (a.2.1 ≤ id) && decide (id < a.2.2)))
def rI (f g : Ft) : Bool := (match f.C with
  | [c] => g.K.contains c
  | _ => false) || (match g.C with
  | [c] => f.K.contains c
  | _ => false)
def rJ (pairs : List (Nat × Nat)) (acc : FP) : Bool := pairs.all fun p => match acc[p.1]?, acc[p.2]? with
  | some a, some b => ws a b || rI a.1 b.1
  | _, _ => false
theorem B7 {f g : Ft} (h : rI f g = true) : lh f g := by
  unfold rI at h
  rcases Bool.or_eq_true _ _ ▸ h with h | h
  · split at h
    · rename_i c hc; exact .inl ⟨c, hc, by simpa using h⟩
    · cases h
  · split at h
    · rename_i c hc; exact .inr ⟨c, hc, by simpa using h⟩
    · cases h
theorem B8 {pairs : List (Nat × Nat)} {acc : FP} (h : rJ pairs acc = true) : wn pairs acc := by
  intro p hp
  have := List.all_eq_true.1 h p hp
  split at this
  · rename_i a b ha hb
    refine ⟨a, b, ha, hb, ?_⟩
    rcases (Bool.or_eq_true _ _).mp this with this | this
    · refine .inl ?_
      simp [ws] at this
      obtain ⟨⟨⟨h1, h2⟩, h3⟩, h4⟩ := this
      refine ⟨fun id hid => h1 id hid, fun id hid => h2 id hid, fun id hid => ?_, fun id hid => ?_⟩
      · rintro ⟨g1, g2⟩
        rcases List.mem_append.1 hid with h | h
        · have := h3.1 id h; omega
        · have := h3.2 id h; omega
      · rintro ⟨g1, g2⟩
        rcases List.mem_append.1 hid with h | h
        · have := h4.1 id h; omega
        · have := h4.2 id h; omega
    · exact .inr (B7 this)
  · cases this
theorem oY {K K' : S → FP → Prop} : ∀ (l : List bJ) (s : S) (acc : FP), (∀ s acc, K s acc → K' s acc) → cC P l s acc K → cC P l s acc K'
  | [], s, acc, hk, h => hk s acc h
  | i :: l, s, acc, hk, h => by
    have one : ∀ {K1 K2 : S → List Nat → List Nat → Prop} {op : bA} {dst : Option Nat}, (∀ s r w, K1 s r w → K2 s r w) → gZ P op dst s K1 → gZ P op dst s K2 := by
      intro K1 K2 op dst hk h
      unfold gZ at h ⊢
      split at h
      · obtain ⟨pre, post, v, m, W, h1, h2, h3⟩ := h; exact ⟨pre, post, v, m, W, h1, h2, hk _ _ _ h3⟩
      · exact h
      · unfold fA at h ⊢
        split at h
        · obtain ⟨ds, r, h1, h2, h3⟩ := h; exact ⟨ds, r, h1, h2, hk _ _ _ h3⟩
        · obtain ⟨v, σ', n', h1, h2, h3⟩ := h; exact ⟨v, σ', n', h1, h2, hk _ _ _ h3⟩
        · obtain ⟨f, caps, ds, r, h0, h1, h2, h3⟩ := h; exact ⟨f, caps, ds, r, h0, h1, h2, hk _ _ _ h3⟩
        · obtain ⟨f, caps, v, σ', n', h0, h1, h2, h3⟩ := h; exact ⟨f, caps, v, σ', n', h0, h1, h2, hk _ _ _ h3⟩
        · split at h
          · exact hk _ _ _ h
          · exact h.elim
    unfold cC at h ⊢
    cases hg : i.guard with
    | none => rw [hg] at h; exact one (fun s r w ⟨C, Kp, h1, h2, h3, h4⟩ => ⟨C, Kp, h1, h2, h3, oY l s _ hk h4⟩) h
    | some p =>
      obtain ⟨g, b⟩ := p
      rw [hg] at h
      simp only at h ⊢
      cases hb : iH (s.T g) with
      | none => rw [hb] at h; exact h.elim
      | some b' =>
        rw [hb] at h
        simp only at h ⊢
        by_cases hbb : b' = some b
        · rw [if_pos hbb] at h ⊢; exact one (fun s r w ⟨C, Kp, h1, h2, h3, h4⟩ => ⟨C, Kp, h1, h2, h3, oY l s _ hk h4⟩) h
        · rw [if_neg hbb] at h ⊢; exact oY l _ _ hk h
theorem B9 {Q : Exit → S → Prop} {s : S} (s0 : S) {pairs : List (Nat × Nat)} {l : List bJ} (h : cC P l s [] fun s' acc => rJ pairs acc = true ∧ bO na s' s0) (k : Q .normal s0) : bH P N na (.opsS pairs l) Q s :=
  bH.post (cw.nwp (cw.opsS (oY l s [] (fun s' acc ⟨h1, h2⟩ => ⟨B8 h1, s0, h2, k⟩) h)))
theorem rK {Q : Exit → S → Prop} {s : S} (s0 : S) {pairs : List (Nat × Nat)} {l : List bJ} {y : bN} (h : cC P l s [] fun s' acc => rJ pairs acc = true ∧ bO na s' s0) (k : bH P N na y Q s0) : bH P N na (.seq (.opsS pairs l) y) Q s :=
  aH (B9 s0 h k)
theorem rL : ∀ {bl : List (Nat × aS)} {id : Nat} {b : aS}, ah bl id = some b → (id, b) ∈ bl
  | [], _, _, h => by cases h
  | (s, v) :: bl, id, b, h => by
    simp only [ah] at h
    split at h
    · rename_i e; subst e; cases h; simp
    · exact List.mem_cons_of_mem _ (rL h)
theorem d8.grow {σ σ2 : aD} (hg : ∀ id blk, σ id = some blk → σ2 id = some blk) {v : V} {d : D} (h : d8 σ v d) : d8 σ2 v d := by
  induction h with
  | d x => exact .d x
  | sub _ hs ih => exact .sub ih hs
  | loc hid hle => exact .loc (hg _ _ hid) hle
  | var1 hid _ hs ih => exact .var1 (hg _ _ hid) ih hs
  | var hid hl _ ih => exact .var (hg _ _ hid) hl ih
  | elem hid hx => exact .elem (hg _ _ hid) hx
  | agg hl _ ih => exact .agg hl ih
  | func hl _ ih => exact .func hl ih
theorem eA.grow {σ σ2 : aD} (hg : ∀ id blk, σ id = some blk → σ2 id = some blk) : ∀ {l : List V} {r : List D}, eA σ l r → eA σ2 l r
  | [], [], _ => trivial
  | v :: l, d :: r, h => ⟨h.1.grow hg, eA.grow hg h.2⟩
  | [], _ :: _, h => h.elim
  | _ :: _, [], h => h.elim
theorem Ca {f : Nat} {vals vals0 : List V} {bl bl' : List (Nat × aS)} {v0 : V} (rl : List Nat) (h : b8 P f vals0 (ah bl) rl.length v0 (ah bl') rl.length) (hnd : rl.Nodup) (hdom : ∀ p ∈ bl', p.1 < rl.length) (hcov : bl.map (·.1) = List.range rl.length)
    (pre : List (Nat × aS)) (hpre : pre.map (·.1) = rl) (hv : aw (rn rl) rl.length vals vals0) (hσ : SN (rn rl) rl.length (ah pre) bl) (v : V) (hv0 : ∀ n, v0.ren (up rl n) = v) (post : List (Nat × Option aS)) (hin : ∀ p ∈ post, p.1 ∈ rl) (hpost : ∀ n σ, fk (up rl n) bl' (rem rl σ) = eR post σ) : oX P f vals pre v post := by
  refine ⟨fun p hp => ?_, fun σ n hp => ?_⟩
  · have := hin p hp
    rw [← hpre] at this
    obtain ⟨q, hq, e⟩ := List.mem_map.1 this
    exact ⟨q, hq, e⟩
  · have hσ2 : SN (rn rl) rl.length σ bl := by
      have key : ∀ {bl : List (Nat × aS)}, SN (rn rl) rl.length (ah pre) bl → SN (rn rl) rl.length σ bl := by
        intro bl
        induction bl with
        | nil => intro _; trivial
        | cons q bl ih =>
          intro h
          obtain ⟨⟨h1, b', h2, h3⟩, h4⟩ := h
          exact ⟨⟨h1, b', hp _ (rL h2), h3⟩, ih h4⟩
      exact key hσ
    -- the names that it would make are none
    have hb : ∀ l : List Nat, ∃ m, ∀ i ∈ l, i < m := by
      intro l
      induction l with
      | nil => exact ⟨0, fun i h => by simp at h⟩
      | cons a l ih =>
        obtain ⟨m, hm⟩ := ih
        exact ⟨max m (a + 1), fun i h => by
          rcases List.mem_cons.1 h with rfl | h
          · omega
          · have := hm i h; omega⟩
    obtain ⟨m, hlt⟩ := hb rl
    have := fB (n := m) rl h (Nat.le_refl _) hnd hlt hdom hv hσ2
    rw [hpost m σ, hv0 m, Nat.sub_self, Nat.add_zero] at this
    refine ⟨h.1, fun A μ w vs hs hfr hlen hrel => ?_⟩
    refine (this.2 A μ w vs hs (fun id h1 h2 => by omega) hlen hrel).mono fun e w' ⟨cv, μ', h1, h2, h3, h4, h5⟩ => ⟨cv, μ', h1, h2, h3, h4, fun id hid => ?_⟩
    rcases h5 id hid with h | h
    · exact .inl h
    · omega
theorem rM {f : Nat} {vals vals0 : List V} {bl bl' : List (Nat × aS)} {v0 : V} {n0' : Nat} (rl : List Nat) (h : b8 P f vals0 (ah bl) rl.length v0 (ah bl') n0') (hn0 : rl.length < n0') (hnd : rl.Nodup) (hlt : ∀ i ∈ rl, i < n) (hdom : ∀ p ∈ bl', p.1 < n0')
    (pre : List (Nat × aS)) (hpre : pre.map (·.1) = rl) (hv : aw (rn rl) rl.length vals vals0) (hσ : SN (rn rl) rl.length (ah pre) bl) (v : V) (hv0 : v0.ren (up rl n) = v) (post : List (Nat × Option aS)) (W : List Nat) (m : Nat) (hm : n + (n0' - rl.length) = m)
    (hin : (post.all fun p => W.contains p.1 || (decide (n ≤ p.1) && decide (p.1 < m))) = true) (hW : (W.all fun i => rl.contains i) = true) (hcov : ((List.range (m - n)).all fun i => (post.map (·.1)).contains (n + i)) = true)
    (hpost : ∀ σ, fk (up rl n) bl' (rem rl σ) = eR post σ) : mN P f vals pre v post n m W := by
  subst hm
  refine ⟨by omega, fun p hp => ?_, fun id hid => ?_, fun id hid => ?_, fun σ hp => ?_⟩
  · have := List.all_eq_true.1 hin p hp
    simp at this
    exact this
  · have := List.all_eq_true.1 hW id hid
    rw [hpre]
    simpa using this
  · have := List.all_eq_true.1 hcov (id - n) (by have := hid.1; have := hid.2; simp; omega)
    rw [show n + (id - n) = id by have := hid.1; omega] at this
    simpa using this
  · have hσ2 : SN (rn rl) rl.length σ bl := by
      have key : ∀ {bl : List (Nat × aS)}, SN (rn rl) rl.length (ah pre) bl → SN (rn rl) rl.length σ bl := by
        intro bl
        induction bl with
        | nil => intro _; trivial
        | cons q bl ih =>
          intro h
          obtain ⟨⟨h1, b', h2, h3⟩, h4⟩ := h
          exact ⟨⟨h1, b', hp _ (rL h2), h3⟩, ih h4⟩
      exact key hσ
    have := fB (n := n) rl h (Nat.le_of_lt hn0) hnd hlt hdom hv hσ2
    rw [hpost σ, hv0] at this
    exact this
end
end Go.AM
