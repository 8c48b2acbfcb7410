import Derived.Test.YtnnkfanmokeiaaaAmN6
import Derived.Test.YtnnkfanmokeiaaaAmSoft2
import Derived.Test.YtnnkfanmokeiaaaAmOr
/-  Several texts in one. -/
section
set_option linter.unusedVariables false
set_option linter.unusedSectionVars false
set_option linter.unusedSimpArgs false
namespace Go.AM
open Go Go.RowKit
variable [Glob]
section
variable {P : Program} {N na : Nat} {A : Nat → Nat → Prop} {μ μ' : Nat → Option bn} {T T' : Nat → V} {σ σ' : aB} {w w' : World} {a : Act} {n n' : Nat} {l : List bt} {dst : Option Nat} {op : be} {K : S → FP → Prop} {acc : FP}
theorem wF {v : V} {σ' : aB} {n' : Nat} (R W : List Nat) (C : List Cl) (h : aD op (aA T) σ n = some (v, σ', n')) (hR : dD op (aA T) = R) (hW : dw op (aA T) = W) (hC : hM op (aA T) C) (hok : Ft.ok ⟨R, W, C, []⟩) (k : cg P l ⟨bf T dst v, σ', n'⟩ (acc ++ [(⟨R, W, C, []⟩, n, n')]) K) : cg P (⟨dst, op, none⟩ :: l) ⟨T, σ, n⟩ acc K := by
  subst hR; subst hW
  simp only [cg]
  have k' : ∃ C Kp, hM op (aA T) C ∧ hN σ σ' (dD op (aA T)) Kp ∧ Ft.ok ⟨dD op (aA T), dw op (aA T), C, Kp⟩ ∧ cg P l ⟨bf T dst v, σ', n'⟩ (acc ++ [(⟨dD op (aA T), dw op (aA T), C, Kp⟩, n, n')]) K := ⟨C, [], hC, fun c hc => by simp at hc, hok, k⟩
  unfold fQ
  split
  · simp [aD] at h
  · simp [aD] at h
  · unfold eC
    split
    · simp [aD] at h
    · simp [aD] at h
    · simp [aD] at h
    · simp [aD] at h
    · simp only [h]; exact k'
theorem b9 {v : V} {σ' : aB} {n' : Nat} (R W : List Nat) (h : aD op (aA T) σ n = some (v, σ', n')) (hR : dD op (aA T) = R) (hW : dw op (aA T) = W) (k : cg P l ⟨bf T dst v, σ', n'⟩ (acc ++ [(⟨R, W, [], []⟩, n, n')]) K) : cg P (⟨dst, op, none⟩ :: l) ⟨T, σ, n⟩ acc K :=
  wF R W [] h hR hW (.inl rfl) (.inl rfl) k
theorem cg.nil' (k : K ⟨T, σ, n⟩ acc) : cg P [] ⟨T, σ, n⟩ acc K := k
theorem dh.pre : ∀ {pre : List (Nat × aX)}, dh σ pre → ∀ p ∈ pre, σ p.1 = some p.2
  | [], _, p, hp => by cases hp
  | q :: pre, h, p, hp => by
    rcases List.mem_cons.1 hp with rfl | hp
    · exact h.1
    · exact dh.pre h.2 p hp
def ke (σ σ' : aB) : List Cl → Prop
  | [] => True
  | c :: l => (∀ k, cB σ' k (.ptr c.1 c.2.1 c.2.2) = cB σ k (.ptr c.1 c.2.1 c.2.2)) ∧ ke σ σ' l
theorem ke.ok {σ σ' : aB} {R : List Nat} : ∀ {Kp : List Cl}, ke σ σ' Kp → (Kp.all fun c => R.contains c.1) = true → hN σ σ' R Kp
  | [], _, _, c, hc => by simp at hc
  | c0 :: l, h, hR, c, hc => by
    simp only [List.all_cons, Bool.and_eq_true] at hR
    rcases List.mem_cons.1 hc with rfl | hc
    · exact ⟨by simpa using hR.1, h.1⟩
    · exact ke.ok h.2 hR.2 c hc
theorem wG {f : Nat} {xs : List AX} {v : V} {pre : List (Nat × aX)} {post : List (Nat × Option aX)} {σ' : aB} {R W : List Nat} {m : Nat} (Kp : List Cl) (hp : gl P f (xs.map (aA T)) pre v post n m W) (hpre : dh σ pre) (hσ : dV post σ = σ') (hR : pre.map (·.1) = R) (hk : ke σ σ' Kp) (hkr : (Kp.all fun c => R.contains c.1) = true)
    (k : cg P l ⟨bf T dst v, σ', m⟩ (acc ++ [(⟨R, W, [], Kp⟩, n, m)]) K) : cg P (⟨dst, .call true f xs, none⟩ :: l) ⟨T, σ, n⟩ acc K := by
  subst hR; subst hσ
  simp only [cg]
  exact ⟨pre, post, v, m, _, hp, hpre.pre, [], Kp, .inl rfl, hk.ok hkr, .inl rfl, k⟩
theorem lW {f : Nat} {xs : List AX} {v : V} {pre : List (Nat × aX)} {post : List (Nat × Option aX)} {σ' : aB} {R W : List Nat} {m : Nat} (hp : gl P f (xs.map (aA T)) pre v post n m W) (hpre : dh σ pre) (hσ : dV post σ = σ') (hR : pre.map (·.1) = R)
    (k : cg P l ⟨bf T dst v, σ', m⟩ (acc ++ [(⟨R, W, [], []⟩, n, m)]) K) : cg P (⟨dst, .call true f xs, none⟩ :: l) ⟨T, σ, n⟩ acc K :=
  wG [] hp hpre hσ hR trivial rfl k
def sk (a b : Ft × Nat × Nat) : Bool :=
  (a.1.W.all fun id => !b.1.R.contains id) && (b.1.W.all fun id => !a.1.R.contains id) && ((a.1.R ++ a.1.W).all fun id => !(decide (b.2.1 ≤ id) && decide (id < b.2.2))) && ((b.1.R ++ b.1.W).all fun id => !(decide (a.2.1 ≤ id) && decide (id < a.2.2)))
def oA (f g : Ft) : Bool := (match f.C with
  | [c] => g.K.contains c
  | _ => false) || (match g.C with
  | [c] => f.K.contains c
  | _ => false)
def sl (pairs : List (Nat × Nat)) (acc : FP) : Bool := pairs.all fun p => match acc[p.1]?, acc[p.2]? with
  | some a, some b => sk a b || oA a.1 b.1
  | _, _ => false
theorem wH {f g : Ft} (h : oA f g = true) : jq f g := by
  unfold oA at h
  rcases Bool.or_eq_true _ _ ▸ h with h | h
  · split at h
    · rename_i c hc; exact .inl ⟨c, hc, by simpa using h⟩
    · cases h
  · split at h
    · rename_i c hc; exact .inr ⟨c, hc, by simpa using h⟩
    · cases h
theorem wI {pairs : List (Nat × Nat)} {acc : FP} (h : sl pairs acc = true) : sj pairs acc := by
  intro p hp
  have := List.all_eq_true.1 h p hp
  split at this
  · rename_i a b ha hb
    refine ⟨a, b, ha, hb, ?_⟩
    rcases (Bool.or_eq_true _ _).mp this with this | this
    · refine .inl ?_
      simp [sk] at this
      obtain ⟨⟨⟨h1, h2⟩, h3⟩, h4⟩ := this
      refine ⟨fun id hid => h1 id hid, fun id hid => h2 id hid, fun id hid => ?_, fun id hid => ?_⟩
      · rintro ⟨g1, g2⟩
        rcases List.mem_append.1 hid with h | h
        · have := h3.1 id h; omega
        · have := h3.2 id h; omega
      · rintro ⟨g1, g2⟩
        rcases List.mem_append.1 hid with h | h
        · have := h4.1 id h; omega
        · have := h4.2 id h; omega
    · exact .inr (wH this)
  · cases this
theorem lX {K K' : S → FP → Prop} : ∀ (l : List bt) (s : S) (acc : FP), (∀ s acc, K s acc → K' s acc) → cg P l s acc K → cg P l s acc K'
  | [], s, acc, hk, h => hk s acc h
  | i :: l, s, acc, hk, h => by
    have one : ∀ {K1 K2 : S → List Nat → List Nat → Prop} {op : be} {dst : Option Nat}, (∀ s r w, K1 s r w → K2 s r w) → fQ P op dst s K1 → fQ P op dst s K2 := by
      intro K1 K2 op dst hk h
      unfold fQ at h ⊢
      split at h
      · obtain ⟨pre, post, v, m, W, h1, h2, h3⟩ := h; exact ⟨pre, post, v, m, W, h1, h2, hk _ _ _ h3⟩
      · exact h
      · unfold eC at h ⊢
        split at h
        · obtain ⟨ds, r, h1, h2, h3⟩ := h; exact ⟨ds, r, h1, h2, hk _ _ _ h3⟩
        · obtain ⟨v, σ', n', h1, h2, h3⟩ := h; exact ⟨v, σ', n', h1, h2, hk _ _ _ h3⟩
        · obtain ⟨f, caps, ds, r, h0, h1, h2, h3⟩ := h; exact ⟨f, caps, ds, r, h0, h1, h2, hk _ _ _ h3⟩
        · obtain ⟨f, caps, v, σ', n', h0, h1, h2, h3⟩ := h; exact ⟨f, caps, v, σ', n', h0, h1, h2, hk _ _ _ h3⟩
        · split at h
          · exact hk _ _ _ h
          · exact h.elim
    unfold cg at h ⊢
    cases hg : i.guard with
    | none => rw [hg] at h; exact one (fun s r w ⟨C, Kp, h1, h2, h3, h4⟩ => ⟨C, Kp, h1, h2, h3, lX l s _ hk h4⟩) h
    | some p =>
      obtain ⟨g, b⟩ := p
      rw [hg] at h
      simp only at h ⊢
      cases hb : gA (s.T g) with
      | none => rw [hb] at h; exact h.elim
      | some b' =>
        rw [hb] at h
        simp only at h ⊢
        by_cases hbb : b' = some b
        · rw [if_pos hbb] at h ⊢; exact one (fun s r w ⟨C, Kp, h1, h2, h3, h4⟩ => ⟨C, Kp, h1, h2, h3, lX l s _ hk h4⟩) h
        · rw [if_neg hbb] at h ⊢; exact lX l _ _ hk h
theorem lY {Q : Exit → S → Prop} {s : S} (s0 : S) {pairs : List (Nat × Nat)} {l : List bt} (h : cg P l s [] fun s' acc => sl pairs acc = true ∧ bO na s' s0) (k : Q .normal s0) : aI P N na (.opsS pairs l) Q s :=
  aI.post (bM.nwp (bM.opsS (lX l s [] (fun s' acc ⟨h1, h2⟩ => ⟨wI h1, s0, h2, k⟩) h)))
theorem sm : ∀ {bl : List (Nat × aX)} {id : Nat} {b : aX}, ac bl id = some b → (id, b) ∈ bl
  | [], _, _, h => by cases h
  | (s, v) :: bl, id, b, h => by
    simp only [ac] at h
    split at h
    · rename_i e; subst e; cases h; simp
    · exact List.mem_cons_of_mem _ (sm h)
theorem dq.grow {σ σ2 : aB} (hg : ∀ id blk, σ id = some blk → σ2 id = some blk) {v : V} {d : D} (h : dq σ v d) : dq σ2 v d := by
  induction h with
  | d x => exact .d x
  | sub _ hs ih => exact .sub ih hs
  | loc hid hle => exact .loc (hg _ _ hid) hle
  | var1 hid _ hs ih => exact .var1 (hg _ _ hid) ih hs
  | var hid hl _ ih => exact .var (hg _ _ hid) hl ih
  | elem hid hx => exact .elem (hg _ _ hid) hx
  | agg hl _ ih => exact .agg hl ih
  | func hl _ ih => exact .func hl ih
theorem fe.grow {σ σ2 : aB} (hg : ∀ id blk, σ id = some blk → σ2 id = some blk) : ∀ {l : List V} {r : List D}, fe σ l r → fe σ2 l r
  | [], [], _ => trivial
  | v :: l, d :: r, h => ⟨h.1.grow hg, fe.grow hg h.2⟩
  | [], _ :: _, h => h.elim
  | _ :: _, [], h => h.elim
theorem lZ {f : Nat} {vals vals0 : List V} {bl bl' : List (Nat × aX)} {v0 : V} {n0' : Nat} (rl : List Nat) (h : bY P f vals0 (ac bl) rl.length v0 (ac bl') n0') (hn0 : rl.length < n0') (hnd : rl.Nodup) (hlt : ∀ i ∈ rl, i < n) (hdom : ∀ p ∈ bl', p.1 < n0')
    (pre : List (Nat × aX)) (hpre : pre.map (·.1) = rl) (hv : bo (rn rl) rl.length vals vals0) (hσ : SN (rn rl) rl.length (ac pre) bl) (v : V) (hv0 : v0.ren (up rl n) = v) (post : List (Nat × Option aX)) (W : List Nat) (m : Nat) (hm : n + (n0' - rl.length) = m)
    (hin : (post.all fun p => W.contains p.1 || (decide (n ≤ p.1) && decide (p.1 < m))) = true) (hW : (W.all fun i => rl.contains i) = true) (hcov : ((List.range (m - n)).all fun i => (post.map (·.1)).contains (n + i)) = true)
    (hpost : ∀ σ, over (up rl n) bl' (rem rl σ) = dV post σ) : gl P f vals pre v post n m W := by
  subst hm
  refine ⟨by omega, fun p hp => ?_, fun id hid => ?_, fun id hid => ?_, fun σ hp => ?_⟩
  · have := List.all_eq_true.1 hin p hp
    simp at this
    exact this
  · have := List.all_eq_true.1 hW id hid
    rw [hpre]
    simpa using this
  · have := List.all_eq_true.1 hcov (id - n) (by have := hid.1; have := hid.2; simp; omega)
    rw [show n + (id - n) = id by have := hid.1; omega] at this
    simpa using this
  · have hσ2 : SN (rn rl) rl.length σ bl := by
      have key : ∀ {bl : List (Nat × aX)}, SN (rn rl) rl.length (ac pre) bl → SN (rn rl) rl.length σ bl := by
        intro bl
        induction bl with
        | nil => intro _; trivial
        | cons q bl ih =>
          intro h
          obtain ⟨⟨h1, b', h2, h3⟩, h4⟩ := h
          exact ⟨⟨h1, b', hp _ (sm h2), h3⟩, ih h4⟩
      exact key hσ
    have := gG (n := n) rl h (Nat.le_of_lt hn0) hnd hlt hdom hv hσ2
    rw [hpost σ, hv0] at this
    exact this
end
end Go.AM
end
section
set_option linter.unusedVariables false
set_option linter.unusedSectionVars false
namespace Go.AM
open Go Go.RowKit
variable [Glob]
variable {P : Program}
theorem bY.empty {f : Nat} {k : Option Nat} {σ σ' : aB} {n n' : Nat} {v : V} (hn : bY P f [.d .nils] σ n v σ' n') (he : bY P f [.mapr 0] σ n v σ' n') : bY P f [.d (.vec k [])] σ n v σ' n' := by
  refine ⟨hn.1, fun A μ w vs hs hfr hlen hrel => ?_⟩
  have h1 : vs.size = 1 := by simpa using hlen.symm
  have h0 := hrel 0 (.d (.vec k [])) vs[0] rfl (by simp [h1])
  have one : ∀ (x : V), aE μ (aw A μ σ) w x vs[0] → ∀ (i : Nat) y u, [x][i]? = some y → vs[i]? = some u → aE μ (aw A μ σ) w y u := by
    intro x hx i y u hy hu
    cases i with
    | zero =>
      simp at hy
      subst hy
      have : u = vs[0] := by
        rw [Array.getElem?_eq_getElem (by omega)] at hu
        simpa using hu.symm
      rw [this]; exact hx
    | succ i => simp at hy
  have hd : ∀ (b : Addr) (c : Nat), vs[0] = .slice (some b) 0 c → DRel (aw A μ σ) w (.vec k []) vs[0] → aE μ (aw A μ σ) w (.mapr 0) vs[0] := by
    intro b c hb hdr
    rw [hb] at hdr ⊢
    refine .nne _ _ _ fun k' => ?_
    cases hdr with
    | vecn _ a => exact .vecn k' _
    | vec _ _ b off cap f hc _ _ _ _ _ => exact .vec k' [] b off _ f hc (fun i d h => by simp at h) (fun i d j x h => by simp at h) (fun i d j x h => by simp at h) (fun i d j x h => by simp at h) (fun i d j x h => by simp at h)
  cases h0 with
  | d _ _ hdr =>
    generalize hu : vs[0] = u at hdr
    cases hdr with
    | vecn _ a =>
      cases a with
      | none => exact hn.2 A μ w vs hs hfr (by simpa using hlen) (one _ (by rw [hu]; exact .d _ _ .nils))
      | some b => exact he.2 A μ w vs hs hfr (by simpa using hlen) (one _ (hd _ _ hu (by rw [hu]; exact .vecn k _)))
    | vec _ _ b off cap f hc a1 a2 a3 a4 a5 => exact he.2 A μ w vs hs hfr (by simpa using hlen) (one _ (hd _ _ hu (by rw [hu]; exact .vec k [] b off cap f hc a1 a2 a3 a4 a5)))
end Go.AM
end
section
set_option linter.unusedVariables false
set_option linter.unusedSectionVars false
set_option linter.unusedSimpArgs false
namespace Go.AM
open Go Go.RowKit
variable [Glob]
def eM {κ ν : Type} (ek : κ → D) (ev : ν → D) (m : List (κ × ν)) : List (D × D) := m.map fun p => (ek p.1, ev p.2)
def oB {κ : Type} [DecidableEq κ] (q : MK) (ek : κ → D) : Prop := (∀ a, q.has (ek a) = true) ∧ ∀ a b, q.eq (ek a) (ek b) = some (decide (a = b))
theorem wJ (k : IntKind) (a b : Int) : dy .int (D.int k a) (D.int k b) = some (decide (a = b)) := by
  simp only [dy, if_true, Option.some.injEq]
  rw [Bool.eq_iff_iff]; simp
section
variable {κ ν : Type} [DecidableEq κ] {q : MK} {ek : κ → D} {ev : ν → D}
theorem sn (h : oB q ek) (k : κ) : ∀ (m : List (κ × ν)) (i : Nat), (∃ j v, ez q (ek k) (eM ek ev m) i = some (some (i + j, ev v)) ∧ mget m k = some v ∧ ∀ u, (eM ek ev m).set j (ek k, ev u) = eM ek ev (eO m k u)) ∨
    (ez q (ek k) (eM ek ev m) i = some none ∧ mget m k = none ∧ ∀ u, eM ek ev m ++ [(ek k, ev u)] = eM ek ev (eO m k u))
  | [], i => .inr ⟨rfl, rfl, fun u => rfl⟩
  | p :: m, i => by
    simp only [eM, List.map_cons, ez, h.2]
    by_cases c : k = p.1
    · left
      refine ⟨0, p.2, ?_, by simp [mget, c], fun u => ?_⟩
      · rw [decide_eq_true c]; rfl
      · simp [eO, c]
    · rw [decide_eq_false c]
      rcases sn h k m (i + 1) with ⟨j, v, h1, h2, h3⟩ | ⟨h1, h2, h3⟩
      · refine .inl ⟨j + 1, v, ?_, by simp [mget, c, h2], fun u => ?_⟩
        · simp only [eM] at h1
          rw [show i + (j + 1) = i + 1 + j by omega]
          exact h1
        · have := h3 u
          simp only [eM] at this
          simp [eO, c, this]
      · refine .inr ⟨h1, by simp [mget, c, h2], fun u => ?_⟩
        have := h3 u
        simp only [eM] at this
        simp [eO, c, ← this]
variable {T : Nat → V} {σ : aB} {n : Nat} {x i u : AX} {id : Nat} {m : List (κ × ν)} {k : κ}
theorem wK (h : oB q ek) {w : ν} (hx : aA T x = .mref id) (hi : aA T i = .d (ek k)) (hu : aA T u = .d (ev w)) (hid : σ id = some (.mp (eM ek ev m))) :
    aD (.mset q x i u) (aA T) σ n = some (V.undef, al σ id (some (.mp (eM ek ev (eO m k w)))), n) := by
  simp only [aD, hx, hi, hu, hid, h.1 k]
  rcases sn (ev := ev) h k m 0 with ⟨j, v, h1, h2, h3⟩ | ⟨h1, h2, h3⟩
  · simp only [h1, Nat.zero_add, h3 w]
  · simp only [h1, h3 w]
theorem wL (hx : aA T x = .mref id) (hid : σ id = some (.mp (eM ek ev m))) (hl : m.length ≤ 4294967296) :
    aD (.mlen x) (aA T) σ n = some (.d (.int .i64 m.length), σ, n) := by
  have e : (eM ek ev m).length = m.length := by simp [eM]
  simp only [aD, hx, hid, e]
  rw [if_pos (by unfold maxLen; omega)]
end
theorem sp {α : Type} {l : List α} {n : Int} (h : jT l = some n) : l.length ≤ 4294967296 ∧ n = l.length := by
  unfold jT at h
  split at h
  · cases h; exact ⟨by assumption, rfl⟩
  · cases h
theorem VN.funcs {ρ : Nat → Nat} {n0 f : Nat} {vs us : List V} (h : bo ρ n0 vs us) : VN ρ n0 (.func f vs) (.func f us) := .func f vs us h.all.1 h.all.2
theorem bY.frz {P : Program} {f : Nat} {vals : List V} {σ : aB} {n n' id : Nat} {v : V} {k : Option Nat} {els : List D} (h : bY P f vals σ n v (ac [(id, .lst true k els)]) n') : bY P f vals σ n v (ac [(id, .lst false k els)]) n' := by
  refine ⟨h.1, fun A μ w vs hs hfr hlen hrel => (h.2 A μ w vs hs hfr hlen hrel).mono fun e w' ⟨cv, μ', h1, h2, h3, h4, h5⟩ => ?_⟩
  have key : ∀ j b, ac [(id, aX.lst false k els)] j = some b → j = id ∧ b = .lst false k els := by
    intro j b hb
    simp only [ac] at hb
    split at hb
    · rename_i e; cases hb; exact ⟨e, rfl⟩
    · cases hb
  have hid : ac [(id, aX.lst true k els)] id = some (.lst true k els) := by simp [ac]
  have hown : ∀ b o, cO μ' (ac [(id, aX.lst false k els)]) b o → cO μ' (ac [(id, aX.lst true k els)]) b o := by
    rintro b o ⟨j, bl, g1, g2⟩
    obtain ⟨rfl, rfl⟩ := key j bl g1
    refine ⟨j, _, hid, ?_⟩
    cases hm : μ' j with
    | none => rw [hm] at g2; exact g2.elim
    | some p => cases p with
      | nil => rw [hm] at g2; exact g2.elim
      | «at» b0 k0 => rw [hm] at g2; exact g2.1
  have hownB : ∀ b, eH μ' (ac [(id, aX.lst false k els)]) b → eH μ' (ac [(id, aX.lst true k els)]) b := by
    rintro b ⟨j, bl, kk, g1, g2⟩
    obtain ⟨rfl, rfl⟩ := key j bl g1
    exact ⟨j, _, kk, hid, g2⟩
  have hfull : ∀ b o, aw A μ' (ac [(id, aX.lst false k els)]) b o → aw A μ' (ac [(id, aX.lst true k els)]) b o := fun b o g => g.elim (fun g => .inl (hown b o g)) .inr
  have hD : ∀ {d : D} {u : Value}, DRel (aw A μ' (ac [(id, aX.lst true k els)])) w' d u → DRel (aw A μ' (ac [(id, aX.lst false k els)])) w' d u := fun g => g.mono fun b o v g1 g2 => ⟨g1, fun g3 => g2 (hfull b o g3)⟩
  refine ⟨cv, μ', h1, h2.mono (fun b o v g1 g2 => ⟨g1, fun g3 => g2 (hfull b o g3)⟩) (fun _ _ g => g) (fun _ _ g => g), ⟨fun j bl hj => ?_, fun i j x y b k1 k2 hi hj hp hq => ?_, fun j x b k1 hj hp => ?_, h3.alt, h3.glob.mono fun b o v g1 g2 => ⟨g1, fun g3 => g2 (hfull b o g3)⟩⟩,
    ⟨h4.os, h4.tape, h4.output, h4.size, h4.block, h4.cells, fun b o g => h4.own b o (hown b o g), fun b g => h4.ownB b (hownB b g), h4.grow⟩, h5⟩
  · obtain ⟨rfl, rfl⟩ := key j bl hj
    rcases h3.blks j _ hid with ⟨g1, g2⟩ | ⟨b, c, ty, fr, g1, g2, g3, g4, g5⟩
    · exact .inl ⟨g1, g2⟩
    · exact .inr ⟨b, c, ty, fr, g1, g2, g3, g4, fun i d hd => ⟨(g5 i d hd).1, fun j x hx => by
        obtain ⟨v, q1, q2, q3⟩ := (g5 i d hd).2 j x hx
        exact ⟨v, q1, q2, hD q3⟩⟩⟩
  · obtain ⟨rfl, _⟩ := key i x hi
    obtain ⟨rfl, _⟩ := key j y hj
    rfl
  · obtain ⟨rfl, _⟩ := key j x hj
    exact h3.amb j _ b k1 hid hp
theorem sq {P : Program} {f : Nat} {ds : List D} {len n' : Nat} {m : Bool} {k : Option Nat} {els : List D} (h : bY P f (ds.map V.d) (ac []) 0 (.loc 0 0 len) (ac [(0, .lst m k els)]) n') (hl : len = els.length) : PCall P f ds (.vec k els) := by
  subst hl
  refine ⟨h.1, fun A w vs halt hglob hlen hrel => ?_⟩
  have hst : ac [] = fun _ => none := rfl
  rw [hst] at h
  have hs : aJ A (fun _ => none) (fun _ => none) w := { blks := fun _ _ h => (nomatch h), inj := fun _ _ _ _ _ _ _ h => (nomatch h), amb := fun _ _ _ _ h => (nomatch h), alt := halt, glob := hglob.mono fun b o v h1 h2 => ⟨h1, fun h => h.elim (fun ⟨_, _, h3, _⟩ => by cases h3) h2⟩ }
  have hfull : aw A (fun _ => none) (fun _ => none) = A := by
    funext b o
    apply propext
    constructor
    · rintro (⟨id, blk, h1, _⟩ | h)
      · cases h1
      · exact h
    · exact .inr
  refine (h.2 A (fun _ => none) w vs hs (fun _ _ => rfl) (by simpa using hlen) (fun i x v hx hv => ?_)).mono fun e w' ⟨cv, μ', he, hv', hs', hg, hfr'⟩ => ?_
  · rw [hfull]
    rw [List.getElem?_map] at hx
    cases hd : ds[i]? with
    | none => rw [hd] at hx; cases hx
    | some d => rw [hd] at hx; cases hx; exact .d _ _ (hrel i d v hd hv)
  · refine ⟨cv, he, qg hs' (v := .loc 0 0 els.length) ?_ hv', ⟨hg.os, hg.tape, hg.output, hg.size, fun b hb => hg.block b hb fun ⟨id, blk, k, h1, _⟩ => by cases h1⟩⟩
    simp [iU, e8, fu, ac]
theorem wM {P : Program} {f : Nat} {ds : List D} {r : D} {vals : List V} {σ : aB} {n : Nat} (h : PCall P f ds r) (ha : aQ σ vals ds) : eX P f vals σ n (.d r) σ n := by
  refine ⟨h.1, fun A μ w vs hs hfr hlen hrel => ?_⟩
  obtain ⟨g1, g2⟩ := aQ.sound hs ha (us := vs.toList) (by simpa using hlen) (fun i x v hx hv => hrel i x v hx (by simpa using hv))
  refine (h.2 (aw A μ σ) w vs (fun b o h => ?_) hs.glob (by simpa using g1) (fun i d v hd hv => g2 i d v hd (by simpa using hv))).mono fun e w' ⟨cv, he, hcv, hb⟩ => ?_
  · rcases h with h | h
    · obtain ⟨j, bl, k, hj, hp⟩ := hO h
      obtain ⟨_, hc⟩ := cf.block (hs.blks j bl hj) hp
      exact cU hc
    · exact hs.alt b o h
  exact ⟨cv, μ, he, .d _ _ hcv, hs.ofBelow hb, aM.ofBelow hs hb, fun id h => .inl h⟩
end Go.AM
end
section
set_option linter.unusedVariables false
set_option linter.unusedSectionVars false
namespace Go.AM
open Go Go.RowKit
variable [Glob]
section
variable {α : Type} {e : α → D} {T : Nat → V} {σ : aB} {n : Nat} {k : Option Nat} {x y : AX}
theorem oC {xs : List α} {lo hi i : Int} {v : α} {kk : IntKind} {id : Nat} {m : Bool} (h : gH xs lo hi i = some v) (hx : aA T x = .loc id lo.toNat (hi.toNat - lo.toNat)) (hid : σ id = some (.lst m k (xs.map e))) (hy : aA T y = .d (.int kk i)) :
    aD (.iaddr k x y) (aA T) σ n = some (.ptr id (lo + i).toNat 0, σ, n) := by
  obtain ⟨⟨h0, h1, h2⟩, h3⟩ := vo h
  have hk : cy σ (.loc id lo.toNat (hi.toNat - lo.toNat)) = some k := by simp [cy, hid]
  have e1 : (lo + i).toNat = lo.toNat + i.toNat := by omega
  have h4 : i < ((hi.toNat - lo.toNat : Nat) : Int) := by omega
  simp [aD, hx, hy, h1, hk, h4, e1]
end
end Go.AM
end
section
set_option linter.unusedVariables false
set_option linter.unusedSectionVars false
namespace Go.AM
open Go Go.RowKit
variable [Glob]
theorem wN (k : IntKind) (x y : Int) (ks : List Ck) (l m : List D) : bX (.int :: ks) (.int k x :: l) (.int k y :: m) = if x = y then bX ks l m else some false := by
  simp only [bX, wJ]
  by_cases h : x = y <;> simp [h]
theorem wO (k : IntKind) : oB (.st [.int, .int, .int, .int, .int, .int, .int, .int]) (eA8 (D.int k)) := ⟨fun _ => rfl, fun a b => by
  obtain ⟨a0, a1, a2, a3, a4, a5, a6, a7⟩ := a
  obtain ⟨b0, b1, b2, b3, b4, b5, b6, b7⟩ := b
  have e : (MK.st [.int, .int, .int, .int, .int, .int, .int, .int]).eq (eA8 (D.int k) ⟨a0, a1, a2, a3, a4, a5, a6, a7⟩) (eA8 (D.int k) ⟨b0, b1, b2, b3, b4, b5, b6, b7⟩) = bX [.int, .int, .int, .int, .int, .int, .int, .int] [D.int k a0, D.int k a1, D.int k a2, D.int k a3, D.int k a4, D.int k a5, D.int k a6, D.int k a7] [D.int k b0, D.int k b1, D.int k b2, D.int k b3, D.int k b4, D.int k b5, D.int k b6, D.int k b7] := rfl
  rw [e]
  simp only [wN, A8.mk.injEq]
  by_cases h0 : a0 = b0
  rotate_left
  · simp [h0]
  by_cases h1 : a1 = b1
  rotate_left
  · simp [h0, h1]
  by_cases h2 : a2 = b2
  rotate_left
  · simp [h0, h1, h2]
  by_cases h3 : a3 = b3
  rotate_left
  · simp [h0, h1, h2, h3]
  by_cases h4 : a4 = b4
  rotate_left
  · simp [h0, h1, h2, h3, h4]
  by_cases h5 : a5 = b5
  rotate_left
  · simp [h0, h1, h2, h3, h4, h5]
  by_cases h6 : a6 = b6
  rotate_left
  · simp [h0, h1, h2, h3, h4, h5, h6]
  by_cases h7 : a7 = b7
  rotate_left
  · simp [h0, h1, h2, h3, h4, h5, h6, h7]
  simp [h0, h1, h2, h3, h4, h5, h6, h7, bX]⟩
end Go.AM
end
