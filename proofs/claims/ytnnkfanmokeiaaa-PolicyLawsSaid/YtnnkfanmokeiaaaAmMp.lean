import Derived.Test.YtnnkfanmokeiaaaAmN6
import Derived.Test.YtnnkfanmokeiaaaAmSoft2
/-  Several texts in one. -/
section
set_option linter.unusedVariables false
set_option linter.unusedSectionVars false
set_option linter.unusedSimpArgs false
namespace Go.AM
open Go Go.RowKit
variable [Glob]
section
variable {P : Program} {N na : Nat} {A : Nat → Nat → Prop} {μ μ' : Nat → Option bh} {T T' : Nat → V} {σ σ' : az} {w w' : World} {a : Act} {n n' : Nat} {l : List br} {dst : Option Nat} {op : bd} {K : S → FP → Prop} {acc : FP}
theorem vJ {v : V} {σ' : az} {n' : Nat} (R W : List Nat) (C : List Cl) (h : aB op (aC T) σ n = some (v, σ', n')) (hR : di op (aC T) = R) (hW : de op (aC T) = W) (hC : gZ op (aC T) C) (hok : Ft.ok ⟨R, W, C, []⟩) (k : cm P l ⟨bg T dst v, σ', n'⟩ (acc ++ [(⟨R, W, C, []⟩, n, n')]) K) : cm P (⟨dst, op, none⟩ :: l) ⟨T, σ, n⟩ acc K := by
  subst hR; subst hW
  simp only [cm]
  have k' : ∃ C Kp, gZ op (aC T) C ∧ g8 σ σ' (di op (aC T)) Kp ∧ Ft.ok ⟨di op (aC T), de op (aC T), C, Kp⟩ ∧ cm P l ⟨bg T dst v, σ', n'⟩ (acc ++ [(⟨di op (aC T), de op (aC T), C, Kp⟩, n, n')]) K := ⟨C, [], hC, fun c hc => by simp at hc, hok, k⟩
  unfold fD
  split
  · simp [aB] at h
  · simp [aB] at h
  · unfold d9
    split
    · simp [aB] at h
    · simp [aB] at h
    · simp [aB] at h
    · simp [aB] at h
    · simp only [h]; exact k'
theorem cH {v : V} {σ' : az} {n' : Nat} (R W : List Nat) (h : aB op (aC T) σ n = some (v, σ', n')) (hR : di op (aC T) = R) (hW : de op (aC T) = W) (k : cm P l ⟨bg T dst v, σ', n'⟩ (acc ++ [(⟨R, W, [], []⟩, n, n')]) K) : cm P (⟨dst, op, none⟩ :: l) ⟨T, σ, n⟩ acc K :=
  vJ R W [] h hR hW (.inl rfl) (.inl rfl) k
theorem cm.nil' (k : K ⟨T, σ, n⟩ acc) : cm P [] ⟨T, σ, n⟩ acc K := k
theorem eB.pre : ∀ {pre : List (Nat × bf)}, eB σ pre → ∀ p ∈ pre, σ p.1 = some p.2
  | [], _, p, hp => by cases hp
  | q :: pre, h, p, hp => by
    rcases List.mem_cons.1 hp with rfl | hp
    · exact h.1
    · exact eB.pre h.2 p hp
def lG (σ σ' : az) : List Cl → Prop
  | [] => True
  | c :: l => (∀ k, cn σ' k (.ptr c.1 c.2.1 c.2.2) = cn σ k (.ptr c.1 c.2.1 c.2.2)) ∧ lG σ σ' l
theorem lG.ok {σ σ' : az} {R : List Nat} : ∀ {Kp : List Cl}, lG σ σ' Kp → (Kp.all fun c => R.contains c.1) = true → g8 σ σ' R Kp
  | [], _, _, c, hc => by simp at hc
  | c0 :: l, h, hR, c, hc => by
    simp only [List.all_cons, Bool.and_eq_true] at hR
    rcases List.mem_cons.1 hc with rfl | hc
    · exact ⟨by simpa using hR.1, h.1⟩
    · exact lG.ok h.2 hR.2 c hc
def ro (a b : Ft × Nat × Nat) : Bool :=
  (a.1.W.all fun id => !b.1.R.contains id) && (b.1.W.all fun id => !a.1.R.contains id) && ((a.1.R ++ a.1.W).all fun id => !(decide (b.2.1 ≤ id) && decide (id < b.2.2))) && ((b.1.R ++ b.1.W).all fun id => !(decide (a.2.1 ≤ id) && decide (id < a.2.2)))
def n9 (f g : Ft) : Bool := (match f.C with
  | [c] => g.K.contains c
  | _ => false) || (match g.C with
  | [c] => f.K.contains c
  | _ => false)
def oa (pairs : List (Nat × Nat)) (acc : FP) : Bool := pairs.all fun p => match acc[p.1]?, acc[p.2]? with
  | some a, some b => ro a b || n9 a.1 b.1
  | _, _ => false
theorem vK {f g : Ft} (h : n9 f g = true) : jf f g := by
  unfold n9 at h
  rcases Bool.or_eq_true _ _ ▸ h with h | h
  · split at h
    · rename_i c hc; exact .inl ⟨c, hc, by simpa using h⟩
    · cases h
  · split at h
    · rename_i c hc; exact .inr ⟨c, hc, by simpa using h⟩
    · cases h
theorem vL {pairs : List (Nat × Nat)} {acc : FP} (h : oa pairs acc = true) : rm pairs acc := by
  intro p hp
  have := List.all_eq_true.1 h p hp
  split at this
  · rename_i a b ha hb
    refine ⟨a, b, ha, hb, ?_⟩
    rcases (Bool.or_eq_true _ _).mp this with this | this
    · refine .inl ?_
      simp [ro] at this
      obtain ⟨⟨⟨h1, h2⟩, h3⟩, h4⟩ := this
      refine ⟨fun id hid => h1 id hid, fun id hid => h2 id hid, fun id hid => ?_, fun id hid => ?_⟩
      · rintro ⟨g1, g2⟩
        rcases List.mem_append.1 hid with h | h
        · have := h3.1 id h; omega
        · have := h3.2 id h; omega
      · rintro ⟨g1, g2⟩
        rcases List.mem_append.1 hid with h | h
        · have := h4.1 id h; omega
        · have := h4.2 id h; omega
    · exact .inr (vK this)
  · cases this
theorem lH {K K' : S → FP → Prop} : ∀ (l : List br) (s : S) (acc : FP), (∀ s acc, K s acc → K' s acc) → cm P l s acc K → cm P l s acc K'
  | [], s, acc, hk, h => hk s acc h
  | i :: l, s, acc, hk, h => by
    have one : ∀ {K1 K2 : S → List Nat → List Nat → Prop} {op : bd} {dst : Option Nat}, (∀ s r w, K1 s r w → K2 s r w) → fD P op dst s K1 → fD P op dst s K2 := by
      intro K1 K2 op dst hk h
      unfold fD at h ⊢
      split at h
      · obtain ⟨pre, post, v, m, W, h1, h2, h3⟩ := h; exact ⟨pre, post, v, m, W, h1, h2, hk _ _ _ h3⟩
      · exact h
      · unfold d9 at h ⊢
        split at h
        · obtain ⟨ds, r, h1, h2, h3⟩ := h; exact ⟨ds, r, h1, h2, hk _ _ _ h3⟩
        · obtain ⟨v, σ', n', h1, h2, h3⟩ := h; exact ⟨v, σ', n', h1, h2, hk _ _ _ h3⟩
        · obtain ⟨f, caps, ds, r, h0, h1, h2, h3⟩ := h; exact ⟨f, caps, ds, r, h0, h1, h2, hk _ _ _ h3⟩
        · obtain ⟨f, caps, v, σ', n', h0, h1, h2, h3⟩ := h; exact ⟨f, caps, v, σ', n', h0, h1, h2, hk _ _ _ h3⟩
        · split at h
          · exact hk _ _ _ h
          · exact h.elim
    unfold cm at h ⊢
    cases hg : i.guard with
    | none => rw [hg] at h; exact one (fun s r w ⟨C, Kp, h1, h2, h3, h4⟩ => ⟨C, Kp, h1, h2, h3, lH l s _ hk h4⟩) h
    | some p =>
      obtain ⟨g, b⟩ := p
      rw [hg] at h
      simp only at h ⊢
      cases hb : gn (s.T g) with
      | none => rw [hb] at h; exact h.elim
      | some b' =>
        rw [hb] at h
        simp only at h ⊢
        by_cases hbb : b' = some b
        · rw [if_pos hbb] at h ⊢; exact one (fun s r w ⟨C, Kp, h1, h2, h3, h4⟩ => ⟨C, Kp, h1, h2, h3, lH l s _ hk h4⟩) h
        · rw [if_neg hbb] at h ⊢; exact lH l _ _ hk h
theorem rp {Q : Exit → S → Prop} {s : S} (s0 : S) {pairs : List (Nat × Nat)} {l : List br} (h : cm P l s [] fun s' acc => oa pairs acc = true ∧ bY na s' s0) (k : Q .normal s0) : aN P N na (.opsS pairs l) Q s :=
  aN.post (bG.nwp (bG.opsS (lH l s [] (fun s' acc ⟨h1, h2⟩ => ⟨vL h1, s0, h2, k⟩) h)))
theorem vM {Q : Exit → S → Prop} {s : S} (s0 : S) {pairs : List (Nat × Nat)} {l : List br} {y : bB} (h : cm P l s [] fun s' acc => oa pairs acc = true ∧ bY na s' s0) (k : aN P N na y Q s0) : aN P N na (.seq (.opsS pairs l) y) Q s :=
  aL (rp s0 h k)
theorem da.grow {σ σ2 : az} (hg : ∀ id blk, σ id = some blk → σ2 id = some blk) {v : V} {d : D} (h : da σ v d) : da σ2 v d := by
  induction h with
  | d x => exact .d x
  | sub _ hs ih => exact .sub ih hs
  | loc hid hle => exact .loc (hg _ _ hid) hle
  | var1 hid _ hs ih => exact .var1 (hg _ _ hid) ih hs
  | var hid hl _ ih => exact .var (hg _ _ hid) hl ih
  | elem hid hx => exact .elem (hg _ _ hid) hx
  | agg hl _ ih => exact .agg hl ih
  | func hl _ ih => exact .func hl ih
theorem eR.grow {σ σ2 : az} (hg : ∀ id blk, σ id = some blk → σ2 id = some blk) : ∀ {l : List V} {r : List D}, eR σ l r → eR σ2 l r
  | [], [], _ => trivial
  | v :: l, d :: r, h => ⟨h.1.grow hg, eR.grow hg h.2⟩
  | [], _ :: _, h => h.elim
  | _ :: _, [], h => h.elim
end
end Go.AM
end
section
set_option linter.unusedVariables false
set_option linter.unusedSectionVars false
namespace Go.AM
open Go Go.RowKit
variable [Glob]
variable {P : Program}
theorem co.empty {f : Nat} {k : Option Nat} {σ σ' : az} {n n' : Nat} {v : V} (hn : co P f [.d .nils] σ n v σ' n') (he : co P f [.mapr 0] σ n v σ' n') : co P f [.d (.vec k [])] σ n v σ' n' := by
  refine ⟨hn.1, fun A μ w vs hs hfr hlen hrel => ?_⟩
  have h1 : vs.size = 1 := by simpa using hlen.symm
  have h0 := hrel 0 (.d (.vec k [])) vs[0] rfl (by simp [h1])
  have one : ∀ (x : V), aD μ (au A μ σ) w x vs[0] → ∀ (i : Nat) y u, [x][i]? = some y → vs[i]? = some u → aD μ (au A μ σ) w y u := by
    intro x hx i y u hy hu
    cases i with
    | zero =>
      simp at hy
      subst hy
      have : u = vs[0] := by
        rw [Array.getElem?_eq_getElem (by omega)] at hu
        simpa using hu.symm
      rw [this]; exact hx
    | succ i => simp at hy
  have hd : ∀ (b : Addr) (c : Nat), vs[0] = .slice (some b) 0 c → DRel (au A μ σ) w (.vec k []) vs[0] → aD μ (au A μ σ) w (.mapr 0) vs[0] := by
    intro b c hb hdr
    rw [hb] at hdr ⊢
    refine .nne _ _ _ fun k' => ?_
    cases hdr with
    | vecn _ a => exact .vecn k' _
    | vec _ _ b off cap f hc _ _ _ _ _ => exact .vec k' [] b off _ f hc (fun i d h => by simp at h) (fun i d j x h => by simp at h) (fun i d j x h => by simp at h) (fun i d j x h => by simp at h) (fun i d j x h => by simp at h)
  cases h0 with
  | d _ _ hdr =>
    generalize hu : vs[0] = u at hdr
    cases hdr with
    | vecn _ a =>
      cases a with
      | none => exact hn.2 A μ w vs hs hfr (by simpa using hlen) (one _ (by rw [hu]; exact .d _ _ .nils))
      | some b => exact he.2 A μ w vs hs hfr (by simpa using hlen) (one _ (hd _ _ hu (by rw [hu]; exact .vecn k _)))
    | vec _ _ b off cap f hc a1 a2 a3 a4 a5 => exact he.2 A μ w vs hs hfr (by simpa using hlen) (one _ (hd _ _ hu (by rw [hu]; exact .vec k [] b off cap f hc a1 a2 a3 a4 a5)))
end Go.AM
end
section
set_option linter.unusedVariables false
set_option linter.unusedSectionVars false
set_option linter.unusedSimpArgs false
namespace Go.AM
open Go Go.RowKit
variable [Glob]
section
variable {κ ν : Type} [DecidableEq κ] {q : MK} {ek : κ → D} {ev : ν → D}
variable {T : Nat → V} {σ : az} {n : Nat} {x i u : AX} {id : Nat} {m : List (κ × ν)} {k : κ}
end
theorem VN.funcs {ρ : Nat → Nat} {n0 f : Nat} {vs us : List V} (h : ct ρ n0 vs us) : VN ρ n0 (.func f vs) (.func f us) := .func f vs us h.all.1 h.all.2
theorem co.frz {P : Program} {f : Nat} {vals : List V} {σ : az} {n n' id : Nat} {v : V} {k : Option Nat} {els : List D} (h : co P f vals σ n v (ac [(id, .lst true k els)]) n') : co P f vals σ n v (ac [(id, .lst false k els)]) n' := by
  refine ⟨h.1, fun A μ w vs hs hfr hlen hrel => (h.2 A μ w vs hs hfr hlen hrel).mono fun e w' ⟨cv, μ', h1, h2, h3, h4, h5⟩ => ?_⟩
  have key : ∀ j b, ac [(id, bf.lst false k els)] j = some b → j = id ∧ b = .lst false k els := by
    intro j b hb
    simp only [ac] at hb
    split at hb
    · rename_i e; cases hb; exact ⟨e, rfl⟩
    · cases hb
  have hid : ac [(id, bf.lst true k els)] id = some (.lst true k els) := by simp [ac]
  have hown : ∀ b o, cA μ' (ac [(id, bf.lst false k els)]) b o → cA μ' (ac [(id, bf.lst true k els)]) b o := by
    rintro b o ⟨j, bl, g1, g2⟩
    obtain ⟨rfl, rfl⟩ := key j bl g1
    refine ⟨j, _, hid, ?_⟩
    cases hm : μ' j with
    | none => rw [hm] at g2; exact g2.elim
    | some p => cases p with
      | nil => rw [hm] at g2; exact g2.elim
      | «at» b0 k0 => rw [hm] at g2; exact g2.1
  have hownB : ∀ b, eu μ' (ac [(id, bf.lst false k els)]) b → eu μ' (ac [(id, bf.lst true k els)]) b := by
    rintro b ⟨j, bl, kk, g1, g2⟩
    obtain ⟨rfl, rfl⟩ := key j bl g1
    exact ⟨j, _, kk, hid, g2⟩
  have hfull : ∀ b o, au A μ' (ac [(id, bf.lst false k els)]) b o → au A μ' (ac [(id, bf.lst true k els)]) b o := fun b o g => g.elim (fun g => .inl (hown b o g)) .inr
  have hD : ∀ {d : D} {u : Value}, DRel (au A μ' (ac [(id, bf.lst true k els)])) w' d u → DRel (au A μ' (ac [(id, bf.lst false k els)])) w' d u := fun g => g.mono fun b o v g1 g2 => ⟨g1, fun g3 => g2 (hfull b o g3)⟩
  refine ⟨cv, μ', h1, h2.mono (fun b o v g1 g2 => ⟨g1, fun g3 => g2 (hfull b o g3)⟩) (fun _ _ g => g) (fun _ _ g => g), ⟨fun j bl hj => ?_, fun i j x y b k1 k2 hi hj hp hq => ?_, fun j x b k1 hj hp => ?_, h3.alt, h3.glob.mono fun b o v g1 g2 => ⟨g1, fun g3 => g2 (hfull b o g3)⟩⟩,
    ⟨h4.os, h4.tape, h4.output, h4.size, h4.block, h4.cells, fun b o g => h4.own b o (hown b o g), fun b g => h4.ownB b (hownB b g), h4.grow⟩, h5⟩
  · obtain ⟨rfl, rfl⟩ := key j bl hj
    rcases h3.blks j _ hid with ⟨g1, g2⟩ | ⟨b, c, ty, fr, g1, g2, g3, g4, g5⟩
    · exact .inl ⟨g1, g2⟩
    · exact .inr ⟨b, c, ty, fr, g1, g2, g3, g4, fun i d hd => ⟨(g5 i d hd).1, fun j x hx => by
        obtain ⟨v, q1, q2, q3⟩ := (g5 i d hd).2 j x hx
        exact ⟨v, q1, q2, hD q3⟩⟩⟩
  · obtain ⟨rfl, _⟩ := key i x hi
    obtain ⟨rfl, _⟩ := key j y hj
    rfl
  · obtain ⟨rfl, _⟩ := key j x hj
    exact h3.amb j _ b k1 hid hp
theorem rq {P : Program} {f : Nat} {ds : List D} {len n' : Nat} {m : Bool} {k : Option Nat} {els : List D} (h : co P f (ds.map V.d) (ac []) 0 (.loc 0 0 len) (ac [(0, .lst m k els)]) n') (hl : len = els.length) : PCall P f ds (.vec k els) := by
  subst hl
  refine ⟨h.1, fun A w vs halt hglob hlen hrel => ?_⟩
  have hst : ac [] = fun _ => none := rfl
  rw [hst] at h
  have hs : aI A (fun _ => none) (fun _ => none) w := { blks := fun _ _ h => (nomatch h), inj := fun _ _ _ _ _ _ _ h => (nomatch h), amb := fun _ _ _ _ h => (nomatch h), alt := halt, glob := hglob.mono fun b o v h1 h2 => ⟨h1, fun h => h.elim (fun ⟨_, _, h3, _⟩ => by cases h3) h2⟩ }
  have hfull : au A (fun _ => none) (fun _ => none) = A := by
    funext b o
    apply propext
    constructor
    · rintro (⟨id, blk, h1, _⟩ | h)
      · cases h1
      · exact h
    · exact .inr
  refine (h.2 A (fun _ => none) w vs hs (fun _ _ => rfl) (by simpa using hlen) (fun i x v hx hv => ?_)).mono fun e w' ⟨cv, μ', he, hv', hs', hg, hfr'⟩ => ?_
  · rw [hfull]
    rw [List.getElem?_map] at hx
    cases hd : ds[i]? with
    | none => rw [hd] at hx; cases hx
    | some d => rw [hd] at hx; cases hx; exact .d _ _ (hrel i d v hd hv)
  · refine ⟨cv, he, pV hs' (v := .loc 0 0 els.length) ?_ hv', ⟨hg.os, hg.tape, hg.output, hg.size, fun b hb => hg.block b hb fun ⟨id, blk, k, h1, _⟩ => by cases h1⟩⟩
    simp [iK, eN, ff, ac]
theorem vN {P : Program} {f : Nat} {ds : List D} {r : D} {vals : List V} {σ : az} {n : Nat} (h : PCall P f ds r) (ha : aG σ vals ds) : eJ P f vals σ n (.d r) σ n := by
  refine ⟨h.1, fun A μ w vs hs hfr hlen hrel => ?_⟩
  obtain ⟨g1, g2⟩ := aG.sound hs ha (us := vs.toList) (by simpa using hlen) (fun i x v hx hv => hrel i x v hx (by simpa using hv))
  refine (h.2 (au A μ σ) w vs (fun b o h => ?_) hs.glob (by simpa using g1) (fun i d v hd hv => g2 i d v hd (by simpa using hv))).mono fun e w' ⟨cv, he, hcv, hb⟩ => ?_
  · rcases h with h | h
    · obtain ⟨j, bl, k, hj, hp⟩ := g9 h
      obtain ⟨_, hc⟩ := b4.block (hs.blks j bl hj) hp
      exact cB hc
    · exact hs.alt b o h
  exact ⟨cv, μ, he, .d _ _ hcv, hs.ofBelow hb, aM.ofBelow hs hb, fun id h => .inl h⟩
end Go.AM
end
