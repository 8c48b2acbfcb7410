import Derived.Test.YtnnkfanmokeiaaaAmN7
set_option linter.unusedVariables false
set_option linter.unusedSectionVars false
namespace Go.AM
open Go Go.RowKit
variable [Glob]
variable {P : Program}
theorem bO.empty {f : Nat} {k : Option Nat} {σ σ' : az} {n n' : Nat} {v : V} (hn : bO P f [.d .nils] σ n v σ' n') (he : bO P f [.mapr 0] σ n v σ' n') : bO P f [.d (.vec k [])] σ n v σ' n' := by
  refine ⟨hn.1, fun A μ w vs hs hfr hlen hrel => ?_⟩
  have h1 : vs.size = 1 := by simpa using hlen.symm
  have h0 := hrel 0 (.d (.vec k [])) vs[0] rfl (by simp [h1])
  have one : ∀ (x : V), aD μ (au A μ σ) w x vs[0] → ∀ (i : Nat) y u, [x][i]? = some y → vs[i]? = some u → aD μ (au A μ σ) w y u := by
    intro x hx i y u hy hu
    cases i with
    | zero =>
      simp at hy
      subst hy
      have : u = vs[0] := by
        rw [Array.getElem?_eq_getElem (by omega)] at hu
        simpa using hu.symm
      rw [this]; exact hx
    | succ i => simp at hy
  have hd : ∀ (b : Addr) (c : Nat), vs[0] = .slice (some b) 0 c → DRel (au A μ σ) w (.vec k []) vs[0] → aD μ (au A μ σ) w (.mapr 0) vs[0] := by
    intro b c hb hdr
    rw [hb] at hdr ⊢
    refine .nne _ _ _ fun k' => ?_
    cases hdr with
    | vecn _ a => exact .vecn k' _
    | vec _ _ b off cap f hc _ _ _ _ _ => exact .vec k' [] b off _ f hc (fun i d h => by simp at h) (fun i d j x h => by simp at h) (fun i d j x h => by simp at h) (fun i d j x h => by simp at h) (fun i d j x h => by simp at h)
  cases h0 with
  | d _ _ hdr =>
    generalize hu : vs[0] = u at hdr
    cases hdr with
    | vecn _ a =>
      cases a with
      | none => exact hn.2 A μ w vs hs hfr (by simpa using hlen) (one _ (by rw [hu]; exact .d _ _ .nils))
      | some b => exact he.2 A μ w vs hs hfr (by simpa using hlen) (one _ (hd _ _ hu (by rw [hu]; exact .vecn k _)))
    | vec _ _ b off cap f hc a1 a2 a3 a4 a5 => exact he.2 A μ w vs hs hfr (by simpa using hlen) (one _ (hd _ _ hu (by rw [hu]; exact .vec k [] b off cap f hc a1 a2 a3 a4 a5)))
end Go.AM
