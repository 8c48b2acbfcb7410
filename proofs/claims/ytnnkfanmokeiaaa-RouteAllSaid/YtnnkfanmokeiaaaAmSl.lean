import Derived.Test.YtnnkfanmokeiaaaAmPv
import Derived.Test.YtnnkfanmokeiaaaAmSoft2
import Derived.Shelf.SlLaysE0
import Derived.Shelf.RegionOpenPlain
import Derived.WalkKit
import Derived.Deep.LoopGhost
import Derived.Deep.RegionLaw
import Derived.Lib.Walk
import Derived.Sort.WalkB12
import Derived.Lib.SliceRun
import Derived.Deep.MidRow
/-  Several texts in one. -/
section
set_option linter.unusedVariables false
set_option linter.unusedSectionVars false
set_option linter.unusedSimpArgs false
namespace Go.AM
open Go Go.RowKit
variable [Glob]
section
variable {P : Program} {N na : Nat} {A : Nat → Nat → Prop} {μ μ' : Nat → Option bI} {T T' : Nat → V} {σ σ' : aL} {w w' : World} {a : Act} {n n' : Nat} {l : List bL} {dst : Option Nat} {op : bF} {K : S → FP → Prop} {acc : FP}
theorem BU {v : V} {σ' : aL} {n' : Nat} (R W : List Nat) (C : List Cl) (h : aI op (aF T) σ n = some (v, σ', n')) (hR : eV op (aF T) = R) (hW : eO op (aF T) = W) (hC : jH op (aF T) C) (hok : Ft.ok ⟨R, W, C, []⟩) (k : cB P l ⟨bD T dst v, σ', n'⟩ (acc ++ [(⟨R, W, C, []⟩, n, n')]) K) : cB P (⟨dst, op, none⟩ :: l) ⟨T, σ, n⟩ acc K := by
  subst hR; subst hW
  simp only [cB]
  have k' : ∃ C Kp, jH op (aF T) C ∧ jI σ σ' (eV op (aF T)) Kp ∧ Ft.ok ⟨eV op (aF T), eO op (aF T), C, Kp⟩ ∧ cB P l ⟨bD T dst v, σ', n'⟩ (acc ++ [(⟨eV op (aF T), eO op (aF T), C, Kp⟩, n, n')]) K := ⟨C, [], hC, fun c hc => by simp at hc, hok, k⟩
  unfold ig
  split
  · simp [aI] at h
  · simp [aI] at h
  · unfold fV
    split
    · simp [aI] at h
    · simp [aI] at h
    · simp [aI] at h
    · simp [aI] at h
    · simp only [h]; exact k'
theorem bS {v : V} {σ' : aL} {n' : Nat} (R W : List Nat) (h : aI op (aF T) σ n = some (v, σ', n')) (hR : eV op (aF T) = R) (hW : eO op (aF T) = W) (k : cB P l ⟨bD T dst v, σ', n'⟩ (acc ++ [(⟨R, W, [], []⟩, n, n')]) K) : cB P (⟨dst, op, none⟩ :: l) ⟨T, σ, n⟩ acc K :=
  BU R W [] h hR hW (.inl rfl) (.inl rfl) k
theorem cB.nil' (k : K ⟨T, σ, n⟩ acc) : cB P [] ⟨T, σ, n⟩ acc K := k
theorem m6 {f : Nat} {xs : List AX} {ds : List D} {r : D} (R : List Nat) (ha : bq σ (xs.map (aF T)) ds) (hp : PCall P f ds r) (hR : (xs.map (aF T)).flatMap V.idsA = R) (k : cB P l ⟨bD T dst (.d r), σ, n⟩ (acc ++ [(⟨R, [], [], []⟩, n, n)]) K) : cB P (⟨dst, .call false f xs, none⟩ :: l) ⟨T, σ, n⟩ acc K := by
  subst hR
  simp only [cB]
  exact ⟨ds, r, ha, hp, [], [], .inl rfl, fun c hc => by simp at hc, .inl rfl, k⟩
theorem fW.pre : ∀ {pre : List (Nat × bu)}, fW σ pre → ∀ p ∈ pre, σ p.1 = some p.2
  | [], _, p, hp => by cases hp
  | q :: pre, h, p, hp => by
    rcases List.mem_cons.1 hp with rfl | hp
    · exact h.1
    · exact fW.pre h.2 p hp
def m7 (σ σ' : aL) : List Cl → Prop
  | [] => True
  | c :: l => (∀ k, cW σ' k (.ptr c.1 c.2.1 c.2.2) = cW σ k (.ptr c.1 c.2.1 c.2.2)) ∧ m7 σ σ' l
theorem m7.ok {σ σ' : aL} {R : List Nat} : ∀ {Kp : List Cl}, m7 σ σ' Kp → (Kp.all fun c => R.contains c.1) = true → jI σ σ' R Kp
  | [], _, _, c, hc => by simp at hc
  | c0 :: l, h, hR, c, hc => by
    simp only [List.all_cons, Bool.and_eq_true] at hR
    rcases List.mem_cons.1 hc with rfl | hc
    · exact ⟨by simpa using hR.1, h.1⟩
    · exact m7.ok h.2 hR.2 c hc
theorem BV {f : Nat} {xs : List AX} {v : V} {pre : List (Nat × bu)} {post : List (Nat × Option bu)} {σ' : aL} {R W : List Nat} {m : Nat} (Kp : List Cl) (hp : mZ P f (xs.map (aF T)) pre v post n m W) (hpre : fW σ pre) (hσ : fE post σ = σ') (hR : pre.map (·.1) = R) (hk : m7 σ σ' Kp) (hkr : (Kp.all fun c => R.contains c.1) = true)
    (k : cB P l ⟨bD T dst v, σ', m⟩ (acc ++ [(⟨R, W, [], Kp⟩, n, m)]) K) : cB P (⟨dst, .call true f xs, none⟩ :: l) ⟨T, σ, n⟩ acc K := by
  subst hR; subst hσ
  simp only [cB]
  exact ⟨pre, post, v, m, _, hp, hpre.pre, [], Kp, .inl rfl, hk.ok hkr, .inl rfl, k⟩
theorem BW {f : Nat} {xs : List AX} {v : V} {pre : List (Nat × bu)} {post : List (Nat × Option bu)} {σ' : aL} {R W : List Nat} {m : Nat} (hp : mZ P f (xs.map (aF T)) pre v post n m W) (hpre : fW σ pre) (hσ : fE post σ = σ') (hR : pre.map (·.1) = R)
    (k : cB P l ⟨bD T dst v, σ', m⟩ (acc ++ [(⟨R, W, [], []⟩, n, m)]) K) : cB P (⟨dst, .call true f xs, none⟩ :: l) ⟨T, σ, n⟩ acc K :=
  BV [] hp hpre hσ hR trivial rfl k
def rX (a b : Ft × Nat × Nat) : Bool :=
  (a.1.W.all fun id => !b.1.R.contains id) && (b.1.W.all fun id => !a.1.R.contains id) && ((a.1.R ++ a.1.W).all fun id => !(decide (b.2.1 ≤ id) && decide (id < b.2.2))) && ((b.1.R ++ b.1.W).all fun id => !(decide (a.2.1 ≤ id) && decide (id < a.2.2)))
def rY (f g : Ft) : Bool := (match f.C with
  | [c] => g.K.contains c
  | _ => false) || (match g.C with
  | [c] => f.K.contains c
  | _ => false)
def pd (pairs : List (Nat × Nat)) (acc : FP) : Bool := pairs.all fun p => match acc[p.1]?, acc[p.2]? with
  | some a, some b => rX a b || rY a.1 b.1
  | _, _ => false
theorem BX {f g : Ft} (h : rY f g = true) : lG f g := by
  unfold rY at h
  rcases Bool.or_eq_true _ _ ▸ h with h | h
  · split at h
    · rename_i c hc; exact .inl ⟨c, hc, by simpa using h⟩
    · cases h
  · split at h
    · rename_i c hc; exact .inr ⟨c, hc, by simpa using h⟩
    · cases h
theorem BY {pairs : List (Nat × Nat)} {acc : FP} (h : pd pairs acc = true) : wM pairs acc := by
  intro p hp
  have := List.all_eq_true.1 h p hp
  split at this
  · rename_i a b ha hb
    refine ⟨a, b, ha, hb, ?_⟩
    rcases (Bool.or_eq_true _ _).mp this with this | this
    · refine .inl ?_
      simp [rX] at this
      obtain ⟨⟨⟨h1, h2⟩, h3⟩, h4⟩ := this
      refine ⟨fun id hid => h1 id hid, fun id hid => h2 id hid, fun id hid => ?_, fun id hid => ?_⟩
      · rintro ⟨g1, g2⟩
        rcases List.mem_append.1 hid with h | h
        · have := h3.1 id h; omega
        · have := h3.2 id h; omega
      · rintro ⟨g1, g2⟩
        rcases List.mem_append.1 hid with h | h
        · have := h4.1 id h; omega
        · have := h4.2 id h; omega
    · exact .inr (BX this)
  · cases this
theorem pe {K K' : S → FP → Prop} : ∀ (l : List bL) (s : S) (acc : FP), (∀ s acc, K s acc → K' s acc) → cB P l s acc K → cB P l s acc K'
  | [], s, acc, hk, h => hk s acc h
  | i :: l, s, acc, hk, h => by
    have one : ∀ {K1 K2 : S → List Nat → List Nat → Prop} {op : bF} {dst : Option Nat}, (∀ s r w, K1 s r w → K2 s r w) → ig P op dst s K1 → ig P op dst s K2 := by
      intro K1 K2 op dst hk h
      unfold ig at h ⊢
      split at h
      · obtain ⟨pre, post, v, m, W, h1, h2, h3⟩ := h; exact ⟨pre, post, v, m, W, h1, h2, hk _ _ _ h3⟩
      · exact h
      · unfold fV at h ⊢
        split at h
        · obtain ⟨ds, r, h1, h2, h3⟩ := h; exact ⟨ds, r, h1, h2, hk _ _ _ h3⟩
        · obtain ⟨v, σ', n', h1, h2, h3⟩ := h; exact ⟨v, σ', n', h1, h2, hk _ _ _ h3⟩
        · obtain ⟨f, caps, ds, r, h0, h1, h2, h3⟩ := h; exact ⟨f, caps, ds, r, h0, h1, h2, hk _ _ _ h3⟩
        · obtain ⟨f, caps, v, σ', n', h0, h1, h2, h3⟩ := h; exact ⟨f, caps, v, σ', n', h0, h1, h2, hk _ _ _ h3⟩
        · split at h
          · exact hk _ _ _ h
          · exact h.elim
    unfold cB at h ⊢
    cases hg : i.guard with
    | none => rw [hg] at h; exact one (fun s r w ⟨C, Kp, h1, h2, h3, h4⟩ => ⟨C, Kp, h1, h2, h3, pe l s _ hk h4⟩) h
    | some p =>
      obtain ⟨g, b⟩ := p
      rw [hg] at h
      simp only at h ⊢
      cases hb : iO (s.T g) with
      | none => rw [hb] at h; exact h.elim
      | some b' =>
        rw [hb] at h
        simp only at h ⊢
        by_cases hbb : b' = some b
        · rw [if_pos hbb] at h ⊢; exact one (fun s r w ⟨C, Kp, h1, h2, h3, h4⟩ => ⟨C, Kp, h1, h2, h3, pe l s _ hk h4⟩) h
        · rw [if_neg hbb] at h ⊢; exact pe l _ _ hk h
theorem m8 {Q : Exit → S → Prop} {s : S} (s0 : S) {pairs : List (Nat × Nat)} {l : List bL} (h : cB P l s [] fun s' acc => pd pairs acc = true ∧ bW na s' s0) (k : Q .normal s0) : bG P N na (.opsS pairs l) Q s :=
  bG.post (ct.nwp (ct.opsS (pe l s [] (fun s' acc ⟨h1, h2⟩ => ⟨BY h1, s0, h2, k⟩) h)))
theorem wN {Q : Exit → S → Prop} {s : S} (s0 : S) {pairs : List (Nat × Nat)} {l : List bL} {y : bC} (h : cB P l s [] fun s' acc => pd pairs acc = true ∧ bW na s' s0) (k : bG P N na y Q s0) : bG P N na (.seq (.opsS pairs l) y) Q s :=
  aA (m8 s0 h k)
theorem wO : ∀ {bl : List (Nat × bu)} {id : Nat} {b : bu}, ai bl id = some b → (id, b) ∈ bl
  | [], _, _, h => by cases h
  | (s, v) :: bl, id, b, h => by
    simp only [ai] at h
    split at h
    · rename_i e; subst e; cases h; simp
    · exact List.mem_cons_of_mem _ (wO h)
theorem ep.grow {σ σ2 : aL} (hg : ∀ id blk, σ id = some blk → σ2 id = some blk) {v : V} {d : D} (h : ep σ v d) : ep σ2 v d := by
  induction h with
  | d x => exact .d x
  | sub _ hs ih => exact .sub ih hs
  | loc hid hle => exact .loc (hg _ _ hid) hle
  | var1 hid _ hs ih => exact .var1 (hg _ _ hid) ih hs
  | var hid hl _ ih => exact .var (hg _ _ hid) hl ih
  | elem hid hx => exact .elem (hg _ _ hid) hx
  | agg hl _ ih => exact .agg hl ih
  | func hl _ ih => exact .func hl ih
theorem eH.grow {σ σ2 : aL} (hg : ∀ id blk, σ id = some blk → σ2 id = some blk) : ∀ {l : List V} {r : List D}, eH σ l r → eH σ2 l r
  | [], [], _ => trivial
  | v :: l, d :: r, h => ⟨h.1.grow hg, eH.grow hg h.2⟩
  | [], _ :: _, h => h.elim
  | _ :: _, [], h => h.elim
theorem BZ {f : Nat} {vals vals0 : List V} {bl bl' : List (Nat × bu)} {v0 : V} {n0' : Nat} (rl : List Nat) (h : dp P f vals0 (ai bl) rl.length v0 (ai bl') n0') (hn0 : rl.length < n0') (hnd : rl.Nodup) (hlt : ∀ i ∈ rl, i < n) (hdom : ∀ p ∈ bl', p.1 < n0')
    (pre : List (Nat × bu)) (hpre : pre.map (·.1) = rl) (hv : dC (rn rl) rl.length vals vals0) (hσ : SN (rn rl) rl.length (ai pre) bl) (v : V) (hv0 : v0.ren (up rl n) = v) (post : List (Nat × Option bu)) (W : List Nat) (m : Nat) (hm : n + (n0' - rl.length) = m)
    (hin : (post.all fun p => W.contains p.1 || (decide (n ≤ p.1) && decide (p.1 < m))) = true) (hW : (W.all fun i => rl.contains i) = true) (hcov : ((List.range (m - n)).all fun i => (post.map (·.1)).contains (n + i)) = true)
    (hpost : ∀ σ, gB (up rl n) bl' (rem rl σ) = fE post σ) : mZ P f vals pre v post n m W := by
  subst hm
  refine ⟨by omega, fun p hp => ?_, fun id hid => ?_, fun id hid => ?_, fun σ hp => ?_⟩
  · have := List.all_eq_true.1 hin p hp
    simp at this
    exact this
  · have := List.all_eq_true.1 hW id hid
    rw [hpre]
    simpa using this
  · have := List.all_eq_true.1 hcov (id - n) (by have := hid.1; have := hid.2; simp; omega)
    rw [show n + (id - n) = id by have := hid.1; omega] at this
    simpa using this
  · have hσ2 : SN (rn rl) rl.length σ bl := by
      have key : ∀ {bl : List (Nat × bu)}, SN (rn rl) rl.length (ai pre) bl → SN (rn rl) rl.length σ bl := by
        intro bl
        induction bl with
        | nil => intro _; trivial
        | cons q bl ih =>
          intro h
          obtain ⟨⟨h1, b', h2, h3⟩, h4⟩ := h
          exact ⟨⟨h1, b', hp _ (wO h2), h3⟩, ih h4⟩
      exact key hσ
    have := nQ (n := n) rl h (Nat.le_of_lt hn0) hnd hlt hdom hv hσ2
    rw [hpost σ, hv0] at this
    exact this
end
end Go.AM
end
section
set_option linter.unusedVariables false
set_option linter.unusedSectionVars false
namespace Go.AM
open Go Go.RowKit
variable [Glob]
variable {P : Program}
theorem dp.empty {f : Nat} {k : Option Nat} {σ σ' : aL} {n n' : Nat} {v : V} (hn : dp P f [.d .nils] σ n v σ' n') (he : dp P f [.mapr 0] σ n v σ' n') : dp P f [.d (.vec k [])] σ n v σ' n' := by
  refine ⟨hn.1, fun A μ w vs hs hfr hlen hrel => ?_⟩
  have h1 : vs.size = 1 := by simpa using hlen.symm
  have h0 := hrel 0 (.d (.vec k [])) vs[0] rfl (by simp [h1])
  have one : ∀ (x : V), aR μ (aD A μ σ) w x vs[0] → ∀ (i : Nat) y u, [x][i]? = some y → vs[i]? = some u → aR μ (aD A μ σ) w y u := by
    intro x hx i y u hy hu
    cases i with
    | zero =>
      simp at hy
      subst hy
      have : u = vs[0] := by
        rw [Array.getElem?_eq_getElem (by omega)] at hu
        simpa using hu.symm
      rw [this]; exact hx
    | succ i => simp at hy
  have hd : ∀ (b : Addr) (c : Nat), vs[0] = .slice (some b) 0 c → DRel (aD A μ σ) w (.vec k []) vs[0] → aR μ (aD A μ σ) w (.mapr 0) vs[0] := by
    intro b c hb hdr
    rw [hb] at hdr ⊢
    refine .nne _ _ _ fun k' => ?_
    cases hdr with
    | vecn _ a => exact .vecn k' _
    | vec _ _ b off cap f hc _ _ _ _ _ => exact .vec k' [] b off _ f hc (fun i d h => by simp at h) (fun i d j x h => by simp at h) (fun i d j x h => by simp at h) (fun i d j x h => by simp at h) (fun i d j x h => by simp at h)
  cases h0 with
  | d _ _ hdr =>
    generalize hu : vs[0] = u at hdr
    cases hdr with
    | vecn _ a =>
      cases a with
      | none => exact hn.2 A μ w vs hs hfr (by simpa using hlen) (one _ (by rw [hu]; exact .d _ _ .nils))
      | some b => exact he.2 A μ w vs hs hfr (by simpa using hlen) (one _ (hd _ _ hu (by rw [hu]; exact .vecn k _)))
    | vec _ _ b off cap f hc a1 a2 a3 a4 a5 => exact he.2 A μ w vs hs hfr (by simpa using hlen) (one _ (hd _ _ hu (by rw [hu]; exact .vec k [] b off cap f hc a1 a2 a3 a4 a5)))
end Go.AM
end
section
set_option linter.unusedVariables false
set_option linter.unusedSectionVars false
set_option linter.unusedSimpArgs false
namespace Go.AM
open Go Go.RowKit
variable [Glob]
def eM {κ ν : Type} (ek : κ → D) (ev : ν → D) (m : List (κ × ν)) : List (D × D) := m.map fun p => (ek p.1, ev p.2)
def m9 {κ : Type} [DecidableEq κ] (q : MK) (ek : κ → D) : Prop := (∀ a, q.has (ek a) = true) ∧ ∀ a b, q.eq (ek a) (ek b) = some (decide (a = b))
theorem B0 (k : IntKind) (a b : Int) : dL .int (D.int k a) (D.int k b) = some (decide (a = b)) := by
  simp only [dL, if_true, Option.some.injEq]
  rw [Bool.eq_iff_iff]; simp
theorem B1 (a b : ByteArray) : dL .str (D.str a) (D.str b) = some (decide (a = b)) := by
  simp only [dL, Option.some.injEq]
  rw [Bool.eq_iff_iff]; simp [ug]
theorem B2 (a b : Bool) : dL .bool (D.bool a) (D.bool b) = some (decide (a = b)) := by
  simp only [dL, Option.some.injEq]
  rw [Bool.eq_iff_iff]; simp
theorem wP (k : IntKind) : m9 (.one .int) (D.int k) := ⟨fun _ => rfl, fun a b => by
  simp only [MK.eq, dL, if_true, Option.some.injEq]
  rw [Bool.eq_iff_iff]; simp⟩
section
variable {κ ν : Type} [DecidableEq κ] {q : MK} {ek : κ → D} {ev : ν → D}
theorem rZ (h : m9 q ek) (k : κ) : ∀ (m : List (κ × ν)) (i : Nat), (∃ j v, fR q (ek k) (eM ek ev m) i = some (some (i + j, ev v)) ∧ mget m k = some v ∧ ∀ u, (eM ek ev m).set j (ek k, ev u) = eM ek ev (en m k u)) ∨
    (fR q (ek k) (eM ek ev m) i = some none ∧ mget m k = none ∧ ∀ u, eM ek ev m ++ [(ek k, ev u)] = eM ek ev (en m k u))
  | [], i => .inr ⟨rfl, rfl, fun u => rfl⟩
  | p :: m, i => by
    simp only [eM, List.map_cons, fR, h.2]
    by_cases c : k = p.1
    · left
      refine ⟨0, p.2, ?_, by simp [mget, c], fun u => ?_⟩
      · rw [decide_eq_true c]; rfl
      · simp [en, c]
    · rw [decide_eq_false c]
      rcases rZ h k m (i + 1) with ⟨j, v, h1, h2, h3⟩ | ⟨h1, h2, h3⟩
      · refine .inl ⟨j + 1, v, ?_, by simp [mget, c, h2], fun u => ?_⟩
        · simp only [eM] at h1
          rw [show i + (j + 1) = i + 1 + j by omega]
          exact h1
        · have := h3 u
          simp only [eM] at this
          simp [en, c, this]
      · refine .inr ⟨h1, by simp [mget, c, h2], fun u => ?_⟩
        have := h3 u
        simp only [eM] at this
        simp [en, c, ← this]
variable {T : Nat → V} {σ : aL} {n : Nat} {x i u : AX} {id : Nat} {m : List (κ × ν)} {k : κ}
theorem B3 (h : m9 q ek) (zv : ν) {z : D} (hx : aF T x = .mref id) (hi : aF T i = .d (ek k)) (hid : σ id = some (.mp (eM ek ev m))) (hz : z = ev zv) :
    aI (.mget q z false x i) (aF T) σ n = some (.d (ev ((mget m k).getD zv)), σ, n) := by
  subst hz
  simp only [aI, hx, hi, hid, h.1 k]
  rcases rZ (ev := ev) h k m 0 with ⟨j, v, h1, h2, h3⟩ | ⟨h1, h2, h3⟩
  · simp [h1, h2]
  · simp [h1, h2]
theorem wQ (h : m9 q ek) {w : ν} (hx : aF T x = .mref id) (hi : aF T i = .d (ek k)) (hu : aF T u = .d (ev w)) (hid : σ id = some (.mp (eM ek ev m))) :
    aI (.mset q x i u) (aF T) σ n = some (V.undef, aw σ id (some (.mp (eM ek ev (en m k w)))), n) := by
  simp only [aI, hx, hi, hu, hid, h.1 k]
  rcases rZ (ev := ev) h k m 0 with ⟨j, v, h1, h2, h3⟩ | ⟨h1, h2, h3⟩
  · simp only [h1, Nat.zero_add, h3 w]
  · simp only [h1, h3 w]
theorem wR (hx : aF T x = .mref id) (hid : σ id = some (.mp (eM ek ev m))) (hl : m.length ≤ 4294967296) :
    aI (.mlen x) (aF T) σ n = some (.d (.int .i64 m.length), σ, n) := by
  have e : (eM ek ev m).length = m.length := by simp [eM]
  simp only [aI, hx, hid, e]
  rw [if_pos (by unfold maxLen; omega)]
end
theorem pf {α : Type} {l : List α} {n : Int} (h : jm l = some n) : l.length ≤ 4294967296 ∧ n = l.length := by
  unfold jm at h
  split at h
  · cases h; exact ⟨by assumption, rfl⟩
  · cases h
theorem VN.funcs {ρ : Nat → Nat} {n0 f : Nat} {vs us : List V} (h : dC ρ n0 vs us) : VN ρ n0 (.func f vs) (.func f us) := .func f vs us h.all.1 h.all.2
theorem dp.frz {P : Program} {f : Nat} {vals : List V} {σ : aL} {n n' id : Nat} {v : V} {k : Option Nat} {els : List D} (h : dp P f vals σ n v (ai [(id, .lst true k els)]) n') : dp P f vals σ n v (ai [(id, .lst false k els)]) n' := by
  refine ⟨h.1, fun A μ w vs hs hfr hlen hrel => (h.2 A μ w vs hs hfr hlen hrel).mono fun e w' ⟨cv, μ', h1, h2, h3, h4, h5⟩ => ?_⟩
  have key : ∀ j b, ai [(id, bu.lst false k els)] j = some b → j = id ∧ b = .lst false k els := by
    intro j b hb
    simp only [ai] at hb
    split at hb
    · rename_i e; cases hb; exact ⟨e, rfl⟩
    · cases hb
  have hid : ai [(id, bu.lst true k els)] id = some (.lst true k els) := by simp [ai]
  have hown : ∀ b o, dl μ' (ai [(id, bu.lst false k els)]) b o → dl μ' (ai [(id, bu.lst true k els)]) b o := by
    rintro b o ⟨j, bl, g1, g2⟩
    obtain ⟨rfl, rfl⟩ := key j bl g1
    refine ⟨j, _, hid, ?_⟩
    cases hm : μ' j with
    | none => rw [hm] at g2; exact g2.elim
    | some p => cases p with
      | nil => rw [hm] at g2; exact g2.elim
      | «at» b0 k0 => rw [hm] at g2; exact g2.1
  have hownB : ∀ b, fG μ' (ai [(id, bu.lst false k els)]) b → fG μ' (ai [(id, bu.lst true k els)]) b := by
    rintro b ⟨j, bl, kk, g1, g2⟩
    obtain ⟨rfl, rfl⟩ := key j bl g1
    exact ⟨j, _, kk, hid, g2⟩
  have hfull : ∀ b o, aD A μ' (ai [(id, bu.lst false k els)]) b o → aD A μ' (ai [(id, bu.lst true k els)]) b o := fun b o g => g.elim (fun g => .inl (hown b o g)) .inr
  have hD : ∀ {d : D} {u : Value}, DRel (aD A μ' (ai [(id, bu.lst true k els)])) w' d u → DRel (aD A μ' (ai [(id, bu.lst false k els)])) w' d u := fun g => g.mono fun b o v g1 g2 => ⟨g1, fun g3 => g2 (hfull b o g3)⟩
  refine ⟨cv, μ', h1, h2.mono (fun b o v g1 g2 => ⟨g1, fun g3 => g2 (hfull b o g3)⟩) (fun _ _ g => g) (fun _ _ g => g), ⟨fun j bl hj => ?_, fun i j x y b k1 k2 hi hj hp hq => ?_, fun j x b k1 hj hp => ?_, h3.alt, h3.glob.mono fun b o v g1 g2 => ⟨g1, fun g3 => g2 (hfull b o g3)⟩⟩,
    ⟨h4.os, h4.tape, h4.output, h4.size, h4.block, h4.cells, fun b o g => h4.own b o (hown b o g), fun b g => h4.ownB b (hownB b g), h4.grow⟩, h5⟩
  · obtain ⟨rfl, rfl⟩ := key j bl hj
    rcases h3.blks j _ hid with ⟨g1, g2⟩ | ⟨b, c, ty, fr, g1, g2, g3, g4, g5⟩
    · exact .inl ⟨g1, g2⟩
    · exact .inr ⟨b, c, ty, fr, g1, g2, g3, g4, fun i d hd => ⟨(g5 i d hd).1, fun j x hx => by
        obtain ⟨v, q1, q2, q3⟩ := (g5 i d hd).2 j x hx
        exact ⟨v, q1, q2, hD q3⟩⟩⟩
  · obtain ⟨rfl, _⟩ := key i x hi
    obtain ⟨rfl, _⟩ := key j y hj
    rfl
  · obtain ⟨rfl, _⟩ := key j x hj
    exact h3.amb j _ b k1 hid hp
theorem B4 {P : Program} {f : Nat} {ds : List D} {r : D} {vals : List V} {σ : aL} {n : Nat} (h : PCall P f ds r) (ha : bq σ vals ds) : gf P f vals σ n (.d r) σ n := by
  refine ⟨h.1, fun A μ w vs hs hfr hlen hrel => ?_⟩
  obtain ⟨g1, g2⟩ := bq.sound hs ha (us := vs.toList) (by simpa using hlen) (fun i x v hx hv => hrel i x v hx (by simpa using hv))
  refine (h.2 (aD A μ σ) w vs (fun b o h => ?_) hs.glob (by simpa using g1) (fun i d v hd hv => g2 i d v hd (by simpa using hv))).mono fun e w' ⟨cv, he, hcv, hb⟩ => ?_
  · rcases h with h | h
    · obtain ⟨j, bl, k, hj, hp⟩ := jP h
      obtain ⟨_, hc⟩ := cH.block (hs.blks j bl hj) hp
      exact eA hc
    · exact hs.alt b o h
  exact ⟨cv, μ, he, .d _ _ hcv, hs.ofBelow hb, bk.ofBelow hs hb, fun id h => .inl h⟩
end Go.AM
end
section
set_option linter.unusedVariables false
set_option linter.unusedSectionVars false
namespace Go.AM
open Go Go.RowKit
variable [Glob]
section
variable {α : Type} {e : α → D} {T : Nat → V} {σ : aL} {n : Nat} {k : Option Nat} {x y : AX}
theorem r6 {xs : List α} {lo hi i : Int} {v : α} {kk : IntKind} {id : Nat} {m : Bool} (h : iT xs lo hi i = some v) (hx : aF T x = .loc id lo.toNat (hi.toNat - lo.toNat)) (hid : σ id = some (.lst m k (xs.map e))) (hy : aF T y = .d (.int kk i)) :
    aI (.iaddr k x y) (aF T) σ n = some (.ptr id (lo + i).toNat 0, σ, n) := by
  obtain ⟨⟨h0, h1, h2⟩, h3⟩ := zT h
  have hk : cI σ (.loc id lo.toNat (hi.toNat - lo.toNat)) = some k := by simp [cI, hid]
  have e1 : (lo + i).toNat = lo.toNat + i.toNat := by omega
  have h4 : i < ((hi.toNat - lo.toNat : Nat) : Int) := by omega
  simp [aI, hx, hy, h1, hk, h4, e1]
end
end Go.AM
end
section
set_option linter.unusedVariables false
set_option linter.unusedSectionVars false
namespace Go.Proofs
open Go.Shelf Go.RowKit Go.Lib
variable {P : Program} {ρ : Ren}
end Go.Proofs
end
section
set_option linter.unusedVariables false
set_option linter.unusedSectionVars false
set_option linter.unusedSimpArgs false
namespace Go.AM
open Go Go.RowKit Go.Proofs
variable [Glob]
variable {P : Program} {ρ : Shelf.Ren}
theorem aR.loc_inv {μ : Nat → Option bI} {O : Nat → Nat → Prop} {w : World} {id off len : Nat} {u : Value} (h : aR μ O w (.loc id off len) u) :
    (len = 0 ∧ ∃ a, u = .slice a 0 0 ∧ μ id ≠ none) ∨ ∃ b k cap, u = .slice (some ⟨b, off * am k, none⟩) len cap ∧ μ id = some (.at b k) ∧ len ≤ cap ∧ cap ≤ maxLen ∧ io w b ((off + cap) * am k) := by
  cases h with
  | loc0 _ _ a h => exact .inl ⟨rfl, a, rfl, h⟩
  | loc _ _ _ b k cap h1 h2 h3 h4 => exact .inr ⟨b, k, cap, rfl, h1, h2, h3, h4⟩
end Go.AM
end
section
set_option linter.unusedVariables false
set_option linter.unusedSectionVars false
namespace Go.AM
open Go Go.RowKit
variable [Glob]
section
variable {σ : aL} {T : Nat → V} {n : Nat} {x y : AX}
theorem B5 {vs : List V} {id m : Nat} {cs : List V} {es ds : List D} (hid : σ id = some (.var cs)) (hm : m = cs.length) (h0 : cg (cs.map (eZ σ)) = some es) (hs : es.all (fun d => d.shape none) = true) (h : RV σ vs ds) : RV σ (.loc id 0 m :: vs) (.vec none es :: ds) := by
  refine ⟨⟨_, ?_, .refl _⟩, h⟩
  unfold fJ
  simp only [hid]
  rw [if_pos ⟨trivial, hm⟩, h0]
  simp only [hs, if_true]
theorem B6 {z : D} {l : Int} (hx : aF T x = .d (.int .i64 l)) (hy : aF T y = .d (.int .i64 l)) (hl : 0 ≤ l ∧ l ≤ 4294967296) {cs : List V} (hc : List.replicate l.toNat (V.d z) = cs) {m : Nat} (hm : l.toNat = m) :
    aI (.mkslV z x y) (aF T) σ n = some (.loc n 0 m, aw σ n (some (.var cs)), n + 1) := by
  subst hc; subst hm
  have h2 : 0 ≤ l ∧ l ≤ l ∧ l ≤ l ∧ l ≤ 4294967296 := ⟨hl.1, Int.le_refl _, Int.le_refl _, hl.2⟩
  simp only [aI, hx, hy, if_pos h2]
theorem kE {id m : Nat} {cs : List V} {i : Int} {kk : IntKind} (hx : aF T x = .loc id 0 m) (hid : σ id = some (.var cs)) (hy : aF T y = .d (.int kk i)) (hi : 0 ≤ i ∧ i < (m : Int)) {j : Nat} (hj : i.toNat = j) : aI (.iaddr none x y) (aF T) σ n = some (.ptr id j 0, σ, n) := by
  subst hj
  have hk : cI σ (.loc id 0 m) = some none := by simp [cI, hid]
  simp [aI, hx, hy, hk, hi]
end
end Go.AM
end
