import Derived.Test.YtnnkfanmokeiaaaAmN7
import Derived.Test.YtnnkfanmokeiaaaAmN6
set_option linter.unusedVariables false
set_option linter.unusedSectionVars false
set_option linter.unusedSimpArgs false
namespace Go.AM
open Go Go.RowKit
variable [Glob]
section
variable {κ ν : Type} [DecidableEq κ] {q : MK} {ek : κ → D} {ev : ν → D}
variable {T : Nat → V} {σ : az} {n : Nat} {x i u : AX} {id : Nat} {m : List (κ × ν)} {k : κ}
end
theorem VN.funcs {ρ : Nat → Nat} {n0 f : Nat} {vs us : List V} (h : aY ρ n0 vs us) : VN ρ n0 (.func f vs) (.func f us) := .func f vs us h.all.1 h.all.2
theorem bO.frz {P : Program} {f : Nat} {vals : List V} {σ : az} {n n' id : Nat} {v : V} {k : Option Nat} {els : List D} (h : bO P f vals σ n v (ac [(id, .lst true k els)]) n') : bO P f vals σ n v (ac [(id, .lst false k els)]) n' := by
  refine ⟨h.1, fun A μ w vs hs hfr hlen hrel => (h.2 A μ w vs hs hfr hlen hrel).mono fun e w' ⟨cv, μ', h1, h2, h3, h4, h5⟩ => ?_⟩
  have key : ∀ j b, ac [(id, aQ.lst false k els)] j = some b → j = id ∧ b = .lst false k els := by
    intro j b hb
    simp only [ac] at hb
    split at hb
    · rename_i e; cases hb; exact ⟨e, rfl⟩
    · cases hb
  have hid : ac [(id, aQ.lst true k els)] id = some (.lst true k els) := by simp [ac]
  have hown : ∀ b o, cr μ' (ac [(id, aQ.lst false k els)]) b o → cr μ' (ac [(id, aQ.lst true k els)]) b o := by
    rintro b o ⟨j, bl, g1, g2⟩
    obtain ⟨rfl, rfl⟩ := key j bl g1
    refine ⟨j, _, hid, ?_⟩
    cases hm : μ' j with
    | none => rw [hm] at g2; exact g2.elim
    | some p => cases p with
      | nil => rw [hm] at g2; exact g2.elim
      | «at» b0 k0 => rw [hm] at g2; exact g2.1
  have hownB : ∀ b, dy μ' (ac [(id, aQ.lst false k els)]) b → dy μ' (ac [(id, aQ.lst true k els)]) b := by
    rintro b ⟨j, bl, kk, g1, g2⟩
    obtain ⟨rfl, rfl⟩ := key j bl g1
    exact ⟨j, _, kk, hid, g2⟩
  have hfull : ∀ b o, au A μ' (ac [(id, aQ.lst false k els)]) b o → au A μ' (ac [(id, aQ.lst true k els)]) b o := fun b o g => g.elim (fun g => .inl (hown b o g)) .inr
  have hD : ∀ {d : D} {u : Value}, DRel (au A μ' (ac [(id, aQ.lst true k els)])) w' d u → DRel (au A μ' (ac [(id, aQ.lst false k els)])) w' d u := fun g => g.mono fun b o v g1 g2 => ⟨g1, fun g3 => g2 (hfull b o g3)⟩
  refine ⟨cv, μ', h1, h2.mono (fun b o v g1 g2 => ⟨g1, fun g3 => g2 (hfull b o g3)⟩) (fun _ _ g => g) (fun _ _ g => g), ⟨fun j bl hj => ?_, fun i j x y b k1 k2 hi hj hp hq => ?_, fun j x b k1 hj hp => ?_, h3.alt, h3.glob.mono fun b o v g1 g2 => ⟨g1, fun g3 => g2 (hfull b o g3)⟩⟩,
    ⟨h4.os, h4.tape, h4.output, h4.size, h4.block, h4.cells, fun b o g => h4.own b o (hown b o g), fun b g => h4.ownB b (hownB b g), h4.grow⟩, h5⟩
  · obtain ⟨rfl, rfl⟩ := key j bl hj
    rcases h3.blks j _ hid with ⟨g1, g2⟩ | ⟨b, c, ty, fr, g1, g2, g3, g4, g5⟩
    · exact .inl ⟨g1, g2⟩
    · exact .inr ⟨b, c, ty, fr, g1, g2, g3, g4, fun i d hd => ⟨(g5 i d hd).1, fun j x hx => by
        obtain ⟨v, q1, q2, q3⟩ := (g5 i d hd).2 j x hx
        exact ⟨v, q1, q2, hD q3⟩⟩⟩
  · obtain ⟨rfl, _⟩ := key i x hi
    obtain ⟨rfl, _⟩ := key j y hj
    rfl
  · obtain ⟨rfl, _⟩ := key j x hj
    exact h3.amb j _ b k1 hid hp
theorem rD {P : Program} {f : Nat} {ds : List D} {len n' : Nat} {m : Bool} {k : Option Nat} {els : List D} (h : bO P f (ds.map V.d) (ac []) 0 (.loc 0 0 len) (ac [(0, .lst m k els)]) n') (hl : len = els.length) : PCall P f ds (.vec k els) := by
  subst hl
  refine ⟨h.1, fun A w vs halt hglob hlen hrel => ?_⟩
  have hst : ac [] = fun _ => none := rfl
  rw [hst] at h
  have hs : aH A (fun _ => none) (fun _ => none) w := { blks := fun _ _ h => (nomatch h), inj := fun _ _ _ _ _ _ _ h => (nomatch h), amb := fun _ _ _ _ h => (nomatch h), alt := halt, glob := hglob.mono fun b o v h1 h2 => ⟨h1, fun h => h.elim (fun ⟨_, _, h3, _⟩ => by cases h3) h2⟩ }
  have hfull : au A (fun _ => none) (fun _ => none) = A := by
    funext b o
    apply propext
    constructor
    · rintro (⟨id, blk, h1, _⟩ | h)
      · cases h1
      · exact h
    · exact .inr
  refine (h.2 A (fun _ => none) w vs hs (fun _ _ => rfl) (by simpa using hlen) (fun i x v hx hv => ?_)).mono fun e w' ⟨cv, μ', he, hv', hs', hg, hfr'⟩ => ?_
  · rw [hfull]
    rw [List.getElem?_map] at hx
    cases hd : ds[i]? with
    | none => rw [hd] at hx; cases hx
    | some d => rw [hd] at hx; cases hx; exact .d _ _ (hrel i d v hd hv)
  · refine ⟨cv, he, mg hs' (v := .loc 0 0 els.length) ?_ hv', ⟨hg.os, hg.tape, hg.output, hg.size, fun b hb => hg.block b hb fun ⟨id, blk, k, h1, _⟩ => by cases h1⟩⟩
    simp [ga, dP, d7, ac]
theorem rE {P : Program} {f : Nat} {ds : List D} {r : D} {vals : List V} {σ : az} {n : Nat} (h : PCall P f ds r) (ha : aS σ vals ds) : dN P f vals σ n (.d r) σ n := by
  refine ⟨h.1, fun A μ w vs hs hfr hlen hrel => ?_⟩
  obtain ⟨g1, g2⟩ := aS.sound hs ha (us := vs.toList) (by simpa using hlen) (fun i x v hx hv => hrel i x v hx (by simpa using hv))
  refine (h.2 (au A μ σ) w vs (fun b o h => ?_) hs.glob (by simpa using g1) (fun i d v hd hv => g2 i d v hd (by simpa using hv))).mono fun e w' ⟨cv, he, hcv, hb⟩ => ?_
  · rcases h with h | h
    · obtain ⟨j, bl, k, hj, hp⟩ := gz h
      obtain ⟨_, hc⟩ := bZ.block (hs.blks j bl hj) hp
      exact cV hc
    · exact hs.alt b o h
  exact ⟨cv, μ, he, .d _ _ hcv, hs.ofBelow hb, aL.ofBelow hs hb, fun id h => .inl h⟩
end Go.AM
