import Derived.Test.YtfjelgjfbjjopaaAmN6
import Derived.Test.YtfjelgjfbjjopaaAmSoft2
/-  Several texts in one. -/
section
set_option linter.unusedVariables false
set_option linter.unusedSectionVars false
set_option linter.unusedSimpArgs false
namespace Go.AM
open Go Go.RowKit
variable [Glob]
section
variable {P : Program} {N na : Nat} {A : Nat → Nat → Prop} {μ μ' : Nat → Option aJ} {T T' : Nat → V} {σ σ' : au} {w w' : World} {a : Act} {n n' : Nat} {l : List aQ} {dst : Option Nat} {op : aM} {K : S → FP → Prop} {acc : FP}
theorem de.nil' (k : K ⟨T, σ, n⟩ acc) : de P [] ⟨T, σ, n⟩ acc K := k
theorem sf : ∀ {pre : List (Nat × aK)}, ff σ pre → ∀ p ∈ pre, σ p.1 = some p.2
  | [], _, p, hp => by cases hp
  | q :: pre, h, p, hp => by
    rcases List.mem_cons.1 hp with rfl | hp
    · exact h.1
    · exact sf h.2 p hp
def jO (σ σ' : au) : List Cl → Prop
  | [] => True
  | c :: l => (∀ k, bU σ' k (.ptr c.1 c.2.1 c.2.2) = bU σ k (.ptr c.1 c.2.1 c.2.2)) ∧ jO σ σ' l
theorem jO.ok {σ σ' : au} {R : List Nat} : ∀ {Kp : List Cl}, jO σ σ' Kp → (Kp.all fun c => R.contains c.1) = true → f8 σ σ' R Kp
  | [], _, _, c, hc => by simp at hc
  | c0 :: l, h, hR, c, hc => by
    simp only [List.all_cons, Bool.and_eq_true] at hR
    rcases List.mem_cons.1 hc with rfl | hc
    · exact ⟨by simpa using hR.1, h.1⟩
    · exact jO.ok h.2 hR.2 c hc
theorem cr.grow {σ σ2 : au} (hg : ∀ id blk, σ id = some blk → σ2 id = some blk) {v : V} {d : D} (h : cr σ v d) : cr σ2 v d := by
  induction h with
  | d x => exact .d x
  | sub _ hs ih => exact .sub ih hs
  | loc hid hle => exact .loc (hg _ _ hid) hle
  | var1 hid _ hs ih => exact .var1 (hg _ _ hid) ih hs
  | var hid hl _ ih => exact .var (hg _ _ hid) hl ih
  | elem hid hx => exact .elem (hg _ _ hid) hx
  | agg hl _ ih => exact .agg hl ih
  | func hl _ ih => exact .func hl ih
theorem cw.grow {σ σ2 : au} (hg : ∀ id blk, σ id = some blk → σ2 id = some blk) : ∀ {l : List V} {r : List D}, cw σ l r → cw σ2 l r
  | [], [], _ => trivial
  | v :: l, d :: r, h => ⟨h.1.grow hg, cw.grow hg h.2⟩
  | [], _ :: _, h => h.elim
  | _ :: _, [], h => h.elim
end
end Go.AM
end
section
set_option linter.unusedVariables false
set_option linter.unusedSectionVars false
namespace Go.AM
open Go Go.RowKit
variable [Glob]
variable {P : Program}
theorem cy.empty {f : Nat} {k : Option Nat} {σ σ' : au} {n n' : Nat} {v : V} (hn : cy P f [.d .nils] σ n v σ' n') (he : cy P f [.mapr 0] σ n v σ' n') : cy P f [.d (.vec k [])] σ n v σ' n' := by
  refine ⟨hn.1, fun A μ w vs hs hfr hlen hrel => ?_⟩
  have h1 : vs.size = 1 := by simpa using hlen.symm
  have h0 := hrel 0 (.d (.vec k [])) vs[0] rfl (by simp [h1])
  have one : ∀ (x : V), aw μ (ak A μ σ) w x vs[0] → ∀ (i : Nat) y u, [x][i]? = some y → vs[i]? = some u → aw μ (ak A μ σ) w y u := by
    intro x hx i y u hy hu
    cases i with
    | zero =>
      simp at hy
      subst hy
      have : u = vs[0] := by
        rw [Array.getElem?_eq_getElem (by omega)] at hu
        simpa using hu.symm
      rw [this]; exact hx
    | succ i => simp at hy
  have hd : ∀ (b : Addr) (c : Nat), vs[0] = .slice (some b) 0 c → DRel (ak A μ σ) w (.vec k []) vs[0] → aw μ (ak A μ σ) w (.mapr 0) vs[0] := by
    intro b c hb hdr
    rw [hb] at hdr ⊢
    refine .nne _ _ _ fun k' => ?_
    cases hdr with
    | vecn _ a => exact .vecn k' _
    | vec _ _ b off cap f hc _ _ _ _ _ => exact .vec k' [] b off _ f hc (fun i d h => by simp at h) (fun i d j x h => by simp at h) (fun i d j x h => by simp at h) (fun i d j x h => by simp at h) (fun i d j x h => by simp at h)
  cases h0 with
  | d _ _ hdr =>
    generalize hu : vs[0] = u at hdr
    cases hdr with
    | vecn _ a =>
      cases a with
      | none => exact hn.2 A μ w vs hs hfr (by simpa using hlen) (one _ (by rw [hu]; exact .d _ _ .nils))
      | some b => exact he.2 A μ w vs hs hfr (by simpa using hlen) (one _ (hd _ _ hu (by rw [hu]; exact .vecn k _)))
    | vec _ _ b off cap f hc a1 a2 a3 a4 a5 => exact he.2 A μ w vs hs hfr (by simpa using hlen) (one _ (hd _ _ hu (by rw [hu]; exact .vec k [] b off cap f hc a1 a2 a3 a4 a5)))
end Go.AM
end
section
set_option linter.unusedVariables false
set_option linter.unusedSectionVars false
set_option linter.unusedSimpArgs false
namespace Go.AM
open Go Go.RowKit
variable [Glob]
section
variable {κ ν : Type} [DecidableEq κ] {q : MK} {ek : κ → D} {ev : ν → D}
variable {T : Nat → V} {σ : au} {n : Nat} {x i u : AX} {id : Nat} {m : List (κ × ν)} {k : κ}
end
theorem VN.funcs {ρ : Nat → Nat} {n0 f : Nat} {vs us : List V} (h : ce ρ n0 vs us) : VN ρ n0 (.func f vs) (.func f us) := .func f vs us h.all.1 h.all.2
theorem cy.frz {P : Program} {f : Nat} {vals : List V} {σ : au} {n n' id : Nat} {v : V} {k : Option Nat} {els : List D} (h : cy P f vals σ n v (ag [(id, .lst true k els)]) n') : cy P f vals σ n v (ag [(id, .lst false k els)]) n' := by
  refine ⟨h.1, fun A μ w vs hs hfr hlen hrel => (h.2 A μ w vs hs hfr hlen hrel).mono fun e w' ⟨cv, μ', h1, h2, h3, h4, h5⟩ => ?_⟩
  have key : ∀ j b, ag [(id, aK.lst false k els)] j = some b → j = id ∧ b = .lst false k els := by
    intro j b hb
    simp only [ag] at hb
    split at hb
    · rename_i e; cases hb; exact ⟨e, rfl⟩
    · cases hb
  have hid : ag [(id, aK.lst true k els)] id = some (.lst true k els) := by simp [ag]
  have hown : ∀ b o, bJ μ' (ag [(id, aK.lst false k els)]) b o → bJ μ' (ag [(id, aK.lst true k els)]) b o := by
    rintro b o ⟨j, bl, g1, g2⟩
    obtain ⟨rfl, rfl⟩ := key j bl g1
    refine ⟨j, _, hid, ?_⟩
    cases hm : μ' j with
    | none => rw [hm] at g2; exact g2.elim
    | some p => cases p with
      | nil => rw [hm] at g2; exact g2.elim
      | «at» b0 k0 => rw [hm] at g2; exact g2.1
  have hownB : ∀ b, dy μ' (ag [(id, aK.lst false k els)]) b → dy μ' (ag [(id, aK.lst true k els)]) b := by
    rintro b ⟨j, bl, kk, g1, g2⟩
    obtain ⟨rfl, rfl⟩ := key j bl g1
    exact ⟨j, _, kk, hid, g2⟩
  have hfull : ∀ b o, ak A μ' (ag [(id, aK.lst false k els)]) b o → ak A μ' (ag [(id, aK.lst true k els)]) b o := fun b o g => g.elim (fun g => .inl (hown b o g)) .inr
  have hD : ∀ {d : D} {u : Value}, DRel (ak A μ' (ag [(id, aK.lst true k els)])) w' d u → DRel (ak A μ' (ag [(id, aK.lst false k els)])) w' d u := fun g => g.mono fun b o v g1 g2 => ⟨g1, fun g3 => g2 (hfull b o g3)⟩
  refine ⟨cv, μ', h1, h2.mono (fun b o v g1 g2 => ⟨g1, fun g3 => g2 (hfull b o g3)⟩) (fun _ _ g => g) (fun _ _ g => g), ⟨fun j bl hj => ?_, fun i j x y b k1 k2 hi hj hp hq => ?_, fun j x b k1 hj hp => ?_, h3.alt, h3.glob.mono fun b o v g1 g2 => ⟨g1, fun g3 => g2 (hfull b o g3)⟩⟩,
    ⟨h4.os, h4.tape, h4.output, h4.size, h4.block, h4.cells, fun b o g => h4.own b o (hown b o g), fun b g => h4.ownB b (hownB b g), h4.grow⟩, h5⟩
  · obtain ⟨rfl, rfl⟩ := key j bl hj
    rcases h3.blks j _ hid with ⟨g1, g2⟩ | ⟨b, c, ty, fr, g1, g2, g3, g4, g5⟩
    · exact .inl ⟨g1, g2⟩
    · exact .inr ⟨b, c, ty, fr, g1, g2, g3, g4, fun i d hd => ⟨(g5 i d hd).1, fun j x hx => by
        obtain ⟨v, q1, q2, q3⟩ := (g5 i d hd).2 j x hx
        exact ⟨v, q1, q2, hD q3⟩⟩⟩
  · obtain ⟨rfl, _⟩ := key i x hi
    obtain ⟨rfl, _⟩ := key j y hj
    rfl
  · obtain ⟨rfl, _⟩ := key j x hj
    exact h3.amb j _ b k1 hid hp
theorem uF {P : Program} {f : Nat} {ds : List D} {r : D} {vals : List V} {σ : au} {n : Nat} (h : PCall P f ds r) (ha : bh σ vals ds) : dE P f vals σ n (.d r) σ n := by
  refine ⟨h.1, fun A μ w vs hs hfr hlen hrel => ?_⟩
  obtain ⟨g1, g2⟩ := bh.sound hs ha (us := vs.toList) (by simpa using hlen) (fun i x v hx hv => hrel i x v hx (by simpa using hv))
  refine (h.2 (ak A μ σ) w vs (fun b o h => ?_) hs.glob (by simpa using g1) (fun i d v hd hv => g2 i d v hd (by simpa using hv))).mono fun e w' ⟨cv, he, hcv, hb⟩ => ?_
  · rcases h with h | h
    · obtain ⟨j, bl, k, hj, hp⟩ := gp h
      obtain ⟨_, hc⟩ := bD.block (hs.blks j bl hj) hp
      exact b5 hc
    · exact hs.alt b o h
  exact ⟨cv, μ, he, .d _ _ hcv, hs.ofBelow hb, aA.ofBelow hs hb, fun id h => .inl h⟩
end Go.AM
end
