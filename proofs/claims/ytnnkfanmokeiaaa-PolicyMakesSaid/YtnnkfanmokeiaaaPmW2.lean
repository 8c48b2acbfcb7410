import Derived.Test.YtnnkfanmokeiaaaPmW1
set_option linter.unusedVariables false
set_option linter.unusedSimpArgs false
namespace Go.AM
open Go Go.RowKit Go.Proofs
set_option maxRecDepth 10000
attribute [local irreducible] aP cg
set_option maxHeartbeats 2000000
theorem y8 {self : aj → Int → Option Bool} (hself : ∀ (a0 : aj) (a1 : Int) (r : Bool), self a0 a1 = some r → PCall Try.prog 82 [br a0, .int .i64 a1] (.bool r)) {a0 : aj} {a1 : Int} {r : Bool} (h : k5 self a0 a1 = some r) : PCall Try.prog 82 [br a0, .int .i64 a1] (.bool r) := by
 refine PCall.introN xF (show 2 ≤ 127 by decide) ?_
 refine a8 (s0 := ⟨tab [(0, vs1 a0), (1, vi a1)], ac [], 0⟩) (nr []) ?_
 refine ai ⟨tab [(1, vi a1), (2, ax a0)], ac [], 0⟩ ?_ ?_
 ·
  iterate 2 refine q1 _ ?_
  exact nR []
 refine ai ⟨tab [(1, vi a1), (2, ax a0), (5, vi (a0.Kids.length : Int))], ac [], 0⟩ ?_ ?_
 ·
  iterate 2 refine q1 _ ?_
  refine step (v := vi (a0.Kids.length : Int)) (bz (xs := a0.Kids) (e := aF) rfl) ?_
  refine q1 _ ?_
  exact nR []
 refine aG ?_
 refine ai ⟨tab [(1, vi a1), (2, ax a0), (5, vi (a0.Kids.length : Int)), (11, vi a0.Op)], ac [], 0⟩ ?_ ?_
 ·
  iterate 2 refine q1 _ ?_
  exact nR []
 refine bD ?_
 obtain ⟨y2, hv, h⟩ := au h
 refine ez ⟨tab [(1, vi a1), (2, ax a0), (5, vi (a0.Kids.length : Int)), (11, vi a0.Op), (12, vb y2)], ac [], 0⟩ ?_ ?_
 ·
  replace h := hv
  refine ai ⟨tab [(1, vi a1), (2, ax a0), (5, vi (a0.Kids.length : Int)), (11, vi a0.Op), (12, vb (a0.Op == 0))], ac [], 0⟩ ?_ ?_
  ·
   iterate 2 refine q1 _ ?_
   exact nR []
  by_cases hc1 : (a0.Op == 0) = true
  ·
   replace h := aI hc1 h
   refine aQ (t := (a0.Op == 0)) rfl hc1 ?_
   have hh := aq h
   subst hh
   refine a8 (s0 := ⟨tab [(1, vi a1), (2, ax a0), (5, vi (a0.Kids.length : Int)), (11, vi a0.Op), (12, vb (a0.Op == 0))], ac [], 0⟩) (nr []) ?_
   refine bd ?_
   exact And.intro rfl rfl
  ·
   replace h := aJ hc1 h
   refine aO (t := (a0.Op == 0)) rfl hc1 ?_
   have hh := aq h
   subst hh
   refine bH ⟨tab [(1, vi a1), (2, ax a0), (5, vi (a0.Kids.length : Int)), (11, vi a0.Op), (12, vb (a0.Op == 1))], ac [], 0⟩ ?_ ?_
   ·
    iterate 2 refine q1 _ ?_
    exact nR []
   exact And.intro rfl rfl
 by_cases hc4 : y2 = true
 ·
  replace h := aI hc4 h
  refine aQ (t := y2) rfl hc4 ?_
  refine ai ⟨tab [(4, vb (((a0.Kids.length : Int) == 0) && ((a0.F == 0) && (a0.N == 0))))], ac [], 0⟩ ?_ ?_
  ·
   iterate 3 refine q1 _ ?_
   by_cases hg5 : ((a0.Kids.length : Int) == 0) = true
   ·
    refine qG _ hg5 ?_
    refine q1 _ ?_
    refine qG _ hg5 ?_
    refine q1 _ ?_
    refine qG _ hg5 ?_
    refine q1 _ ?_
    refine step (v := vb (a0.F == 0)) (aU (b := ((a0.Kids.length : Int) == 0)) rfl hg5 rfl) ?_
    refine q1 _ ?_
    by_cases hg6 : (a0.F == 0) = true
    ·
     refine qG _ hg6 ?_
     refine q1 _ ?_
     refine qG _ hg6 ?_
     refine q1 _ ?_
     refine qG _ hg6 ?_
     refine q1 _ ?_
     refine step (v := vb (a0.N == 0)) (aU (b := (a0.F == 0)) rfl hg6 rfl) ?_
     refine q1 _ ?_
     exact aP.nil' (nm [] ⟨.eq (by first | (simp [hg5, hg6]; done) | (simp_all; done) | grind), trivial⟩ trivial)
    ·
     iterate 3 refine qX _ hg6 ?_
     refine step (v := vb false) (aY (b := (a0.F == 0)) rfl hg6 rfl) ?_
     refine q1 _ ?_
     exact aP.nil' (nm [] ⟨.eq (by first | (simp [hg5, hg6]; done) | (simp_all; done) | grind), trivial⟩ trivial)
   ·
    iterate 3 refine qX _ hg5 ?_
    refine step (v := vb false) (aY (b := ((a0.Kids.length : Int) == 0)) rfl hg5 rfl) ?_
    refine q1 _ ?_
    iterate 3 refine qX false (by decide) ?_
    refine step (v := vb false) (aY (b := false) rfl (by decide) rfl) ?_
    refine q1 _ ?_
    exact aP.nil' (nm [] ⟨.eq (by first | (simp [hg5]; done) | (simp_all; done) | grind), trivial⟩ trivial)
  have hh := aq h
  subst hh
  refine aV ?_
  show FQ _ _ _ _
  exact bo (.inr rfl) (aR (v := vb (((a0.Kids.length : Int) == 0) && ((a0.F == 0) && (a0.N == 0)))) rfl rfl) (RV.d trivial)
 ·
  replace h := aJ hc4 h
  refine aO (t := y2) rfl hc4 ?_
  refine ai ⟨tab [(1, vi a1), (2, ax a0), (5, vi (a0.Kids.length : Int)), (11, vi a0.Op), (27, vb (a0.Op == 2))], ac [], 0⟩ ?_ ?_
  ·
   iterate 2 refine q1 _ ?_
   exact nR []
  by_cases hc7 : (a0.Op == 2) = true
  ·
   replace h := aI hc7 h
   refine aQ (t := (a0.Op == 2)) rfl hc7 ?_
   refine ai ⟨tab [(4, vb (((a0.Kids.length : Int) == 0) && ((decide (a0.F ≥ 0)) && (decide (a0.F < 8)))))], ac [], 0⟩ ?_ ?_
   ·
    iterate 3 refine q1 _ ?_
    by_cases hg8 : ((a0.Kids.length : Int) == 0) = true
    ·
     refine qG _ hg8 ?_
     refine q1 _ ?_
     refine qG _ hg8 ?_
     refine q1 _ ?_
     refine qG _ hg8 ?_
     refine q1 _ ?_
     refine step (v := vb (decide (a0.F ≥ 0))) (aU (b := ((a0.Kids.length : Int) == 0)) rfl hg8 rfl) ?_
     refine q1 _ ?_
     by_cases hg9 : decide (a0.F ≥ 0) = true
     ·
      refine qG _ hg9 ?_
      refine q1 _ ?_
      refine qG _ hg9 ?_
      refine q1 _ ?_
      refine qG _ hg9 ?_
      refine q1 _ ?_
      refine step (v := vb (decide (a0.F < 8))) (aU (b := decide (a0.F ≥ 0)) rfl hg9 rfl) ?_
      refine q1 _ ?_
      exact aP.nil' (nm [] ⟨.eq (by first | (simp [hg8, hg9]; done) | (simp_all; done) | grind), trivial⟩ trivial)
     ·
      iterate 3 refine qX _ hg9 ?_
      refine step (v := vb false) (aY (b := decide (a0.F ≥ 0)) rfl hg9 rfl) ?_
      refine q1 _ ?_
      exact aP.nil' (nm [] ⟨.eq (by first | (simp [hg8, hg9]; done) | (simp_all; done) | grind), trivial⟩ trivial)
    ·
     iterate 3 refine qX _ hg8 ?_
     refine step (v := vb false) (aY (b := ((a0.Kids.length : Int) == 0)) rfl hg8 rfl) ?_
     refine q1 _ ?_
     iterate 3 refine qX false (by decide) ?_
     refine step (v := vb false) (aY (b := false) rfl (by decide) rfl) ?_
     refine q1 _ ?_
     exact aP.nil' (nm [] ⟨.eq (by first | (simp [hg8]; done) | (simp_all; done) | grind), trivial⟩ trivial)
   have hh := aq h
   subst hh
   refine aV ?_
   show FQ _ _ _ _
   exact bo (.inr rfl) (aR (v := vb (((a0.Kids.length : Int) == 0) && ((decide (a0.F ≥ 0)) && (decide (a0.F < 8))))) rfl rfl) (RV.d trivial)
  ·
   replace h := aJ hc7 h
   refine aO (t := (a0.Op == 2)) rfl hc7 ?_
   refine ai ⟨tab [(1, vi a1), (2, ax a0), (5, vi (a0.Kids.length : Int)), (11, vi a0.Op), (41, vb (a0.Op == 3))], ac [], 0⟩ ?_ ?_
   ·
    iterate 2 refine q1 _ ?_
    exact nR []
   by_cases hc10 : (a0.Op == 3) = true
   ·
    replace h := aI hc10 h
    refine aQ (t := (a0.Op == 3)) rfl hc10 ?_
    refine ai ⟨tab [(4, vb (((a0.Kids.length : Int) == 0) && ((decide (a0.F ≥ 0)) && (decide (a0.F < a1)))))], ac [], 0⟩ ?_ ?_
    ·
     iterate 3 refine q1 _ ?_
     by_cases hg11 : ((a0.Kids.length : Int) == 0) = true
     ·
      refine qG _ hg11 ?_
      refine q1 _ ?_
      refine qG _ hg11 ?_
      refine q1 _ ?_
      refine qG _ hg11 ?_
      refine q1 _ ?_
      refine step (v := vb (decide (a0.F ≥ 0))) (aU (b := ((a0.Kids.length : Int) == 0)) rfl hg11 rfl) ?_
      refine q1 _ ?_
      by_cases hg12 : decide (a0.F ≥ 0) = true
      ·
       refine qG _ hg12 ?_
       refine q1 _ ?_
       refine qG _ hg12 ?_
       refine q1 _ ?_
       refine qG _ hg12 ?_
       refine q1 _ ?_
       refine qG _ hg12 ?_
       refine q1 _ ?_
       refine step (v := vb (decide (a0.F < a1))) (aU (b := decide (a0.F ≥ 0)) rfl hg12 rfl) ?_
       refine q1 _ ?_
       exact aP.nil' (nm [] ⟨.eq (by first | (simp [hg11, hg12]; done) | (simp_all; done) | grind), trivial⟩ trivial)
      ·
       iterate 4 refine qX _ hg12 ?_
       refine step (v := vb false) (aY (b := decide (a0.F ≥ 0)) rfl hg12 rfl) ?_
       refine q1 _ ?_
       exact aP.nil' (nm [] ⟨.eq (by first | (simp [hg11, hg12]; done) | (simp_all; done) | grind), trivial⟩ trivial)
     ·
      iterate 3 refine qX _ hg11 ?_
      refine step (v := vb false) (aY (b := ((a0.Kids.length : Int) == 0)) rfl hg11 rfl) ?_
      refine q1 _ ?_
      iterate 4 refine qX false (by decide) ?_
      refine step (v := vb false) (aY (b := false) rfl (by decide) rfl) ?_
      refine q1 _ ?_
      exact aP.nil' (nm [] ⟨.eq (by first | (simp [hg11]; done) | (simp_all; done) | grind), trivial⟩ trivial)
    have hh := aq h
    subst hh
    refine aV ?_
    show FQ _ _ _ _
    exact bo (.inr rfl) (aR (v := vb (((a0.Kids.length : Int) == 0) && ((decide (a0.F ≥ 0)) && (decide (a0.F < a1))))) rfl rfl) (RV.d trivial)
   ·
    replace h := aJ hc10 h
    refine aO (t := (a0.Op == 3)) rfl hc10 ?_
    refine ai ⟨tab [(1, vi a1), (2, ax a0), (5, vi (a0.Kids.length : Int)), (11, vi a0.Op), (56, vb (a0.Op == 5))], ac [], 0⟩ ?_ ?_
    ·
     iterate 2 refine q1 _ ?_
     exact nR []
    by_cases hc13 : (a0.Op == 5) = true
    ·
     replace h := aI hc13 h
     refine aQ (t := (a0.Op == 5)) rfl hc13 ?_
     refine ai ⟨tab [(4, vb (((a0.Kids.length : Int) == 0) && ((decide (a0.F ≥ 1)) && (decide (a0.F < 8)))))], ac [], 0⟩ ?_ ?_
     ·
      iterate 3 refine q1 _ ?_
      by_cases hg14 : ((a0.Kids.length : Int) == 0) = true
      ·
       refine qG _ hg14 ?_
       refine q1 _ ?_
       refine qG _ hg14 ?_
       refine q1 _ ?_
       refine qG _ hg14 ?_
       refine q1 _ ?_
       refine step (v := vb (decide (a0.F ≥ 1))) (aU (b := ((a0.Kids.length : Int) == 0)) rfl hg14 rfl) ?_
       refine q1 _ ?_
       by_cases hg15 : decide (a0.F ≥ 1) = true
       ·
        refine qG _ hg15 ?_
        refine q1 _ ?_
        refine qG _ hg15 ?_
        refine q1 _ ?_
        refine qG _ hg15 ?_
        refine q1 _ ?_
        refine step (v := vb (decide (a0.F < 8))) (aU (b := decide (a0.F ≥ 1)) rfl hg15 rfl) ?_
        refine q1 _ ?_
        exact aP.nil' (nm [] ⟨.eq (by first | (simp [hg14, hg15]; done) | (simp_all; done) | grind), trivial⟩ trivial)
       ·
        iterate 3 refine qX _ hg15 ?_
        refine step (v := vb false) (aY (b := decide (a0.F ≥ 1)) rfl hg15 rfl) ?_
        refine q1 _ ?_
        exact aP.nil' (nm [] ⟨.eq (by first | (simp [hg14, hg15]; done) | (simp_all; done) | grind), trivial⟩ trivial)
      ·
       iterate 3 refine qX _ hg14 ?_
       refine step (v := vb false) (aY (b := ((a0.Kids.length : Int) == 0)) rfl hg14 rfl) ?_
       refine q1 _ ?_
       iterate 3 refine qX false (by decide) ?_
       refine step (v := vb false) (aY (b := false) rfl (by decide) rfl) ?_
       refine q1 _ ?_
       exact aP.nil' (nm [] ⟨.eq (by first | (simp [hg14]; done) | (simp_all; done) | grind), trivial⟩ trivial)
     have hh := aq h
     subst hh
     refine aV ?_
     show FQ _ _ _ _
     exact bo (.inr rfl) (aR (v := vb (((a0.Kids.length : Int) == 0) && ((decide (a0.F ≥ 1)) && (decide (a0.F < 8))))) rfl rfl) (RV.d trivial)
    ·
     replace h := aJ hc13 h
     refine aO (t := (a0.Op == 5)) rfl hc13 ?_
     refine ai ⟨tab [(1, vi a1), (2, ax a0), (5, vi (a0.Kids.length : Int)), (11, vi a0.Op), (70, vb (a0.Op == 4))], ac [], 0⟩ ?_ ?_
     ·
      iterate 2 refine q1 _ ?_
      exact nR []
     by_cases hc16 : (a0.Op == 4) = true
     ·
      replace h := aI hc16 h
      refine aQ (t := (a0.Op == 4)) rfl hc16 ?_
      obtain ⟨y24, hv, h⟩ := au h
      refine ai ⟨tab [(4, vb y24)], ac [], 0⟩ ?_ ?_
      ·
       iterate 3 refine q1 _ ?_
       by_cases hg17 : ((a0.Kids.length : Int) == 1) = true
       ·
        replace hv := aI hg17 hv
        refine qG _ hg17 ?_
        refine q1 _ ?_
        refine qG _ hg17 ?_
        refine q1 _ ?_
        refine qG _ hg17 ?_
        refine q1 _ ?_
        refine step (v := vb (a0.F == 0)) (aU (b := ((a0.Kids.length : Int) == 1)) rfl hg17 rfl) ?_
        refine q1 _ ?_
        by_cases hg18 : (a0.F == 0) = true
        ·
         replace hv := aI hg18 hv
         refine qG _ hg18 ?_
         refine q1 _ ?_
         refine qG _ hg18 ?_
         refine q1 _ ?_
         refine qG _ hg18 ?_
         refine q1 _ ?_
         refine step (v := vb (a0.N == 0)) (aU (b := (a0.F == 0)) rfl hg18 rfl) ?_
         refine q1 _ ?_
         by_cases hg19 : (a0.N == 0) = true
         ·
          replace hv := aI hg19 hv
          obtain ⟨x20, hx20, hv⟩ := au hv
          obtain ⟨r21, hr21, hv⟩ := au hv
          refine qG _ hg19 ?_
          refine q1 _ ?_
          refine qG _ hg19 ?_
          refine q1 _ ?_
          refine qG _ hg19 ?_
          refine step (v := ax x20) (dH (xs := a0.Kids) (e := aF) hx20 rfl rfl (cF _)) ?_
          refine qG _ hg19 ?_
          refine q1 _ ?_
          refine qG _ hg19 ?_
          refine bt (r := .bool r21) (aH aT.nil') (yZ hr21) ?_
          refine step (v := vb r21) (aU (b := (a0.N == 0)) rfl hg19 rfl) ?_
          refine q1 _ ?_
          by_cases hg22 : r21 = true
          ·
           replace hv := aI hg22 hv
           obtain ⟨r23, hr23, hv⟩ := au hv
           refine qG _ hg22 ?_
           refine q1 _ ?_
           refine qG _ hg22 ?_
           refine q1 _ ?_
           refine qG _ hg22 ?_
           refine step (v := ax x20) (dH (xs := a0.Kids) (e := aF) hx20 rfl rfl (cF _)) ?_
           refine qG _ hg22 ?_
           refine q1 _ ?_
           refine qG _ hg22 ?_
           refine q1 _ ?_
           refine qG _ hg22 ?_
           refine bt (r := .bool r23) (aH (aH aT.nil')) (hself _ _ _ hr23) ?_
           refine step (v := vb r23) (aU (b := r21) rfl hg22 rfl) ?_
           refine q1 _ ?_
           have hh := aq hv
           subst hh
           exact nR []
          ·
           replace hv := aJ hg22 hv
           iterate 6 refine qX _ hg22 ?_
           refine step (v := vb false) (aY (b := r21) rfl hg22 rfl) ?_
           refine q1 _ ?_
           have hh := aq hv
           subst hh
           exact nR []
         ·
          replace hv := aJ hg19 hv
          iterate 5 refine qX _ hg19 ?_
          refine step (v := vb false) (aY (b := (a0.N == 0)) rfl hg19 rfl) ?_
          refine q1 _ ?_
          iterate 6 refine qX false (by decide) ?_
          refine step (v := vb false) (aY (b := false) rfl (by decide) rfl) ?_
          refine q1 _ ?_
          have hh := aq hv
          subst hh
          exact nR []
        ·
         replace hv := aJ hg18 hv
         iterate 3 refine qX _ hg18 ?_
         refine step (v := vb false) (aY (b := (a0.F == 0)) rfl hg18 rfl) ?_
         refine q1 _ ?_
         iterate 5 refine qX false (by decide) ?_
         refine step (v := vb false) (aY (b := false) rfl (by decide) rfl) ?_
         refine q1 _ ?_
         iterate 6 refine qX false (by decide) ?_
         refine step (v := vb false) (aY (b := false) rfl (by decide) rfl) ?_
         refine q1 _ ?_
         have hh := aq hv
         subst hh
         exact nR []
       ·
        replace hv := aJ hg17 hv
        iterate 3 refine qX _ hg17 ?_
        refine step (v := vb false) (aY (b := ((a0.Kids.length : Int) == 1)) rfl hg17 rfl) ?_
        refine q1 _ ?_
        iterate 3 refine qX false (by decide) ?_
        refine step (v := vb false) (aY (b := false) rfl (by decide) rfl) ?_
        refine q1 _ ?_
        iterate 5 refine qX false (by decide) ?_
        refine step (v := vb false) (aY (b := false) rfl (by decide) rfl) ?_
        refine q1 _ ?_
        iterate 6 refine qX false (by decide) ?_
        refine step (v := vb false) (aY (b := false) rfl (by decide) rfl) ?_
        refine q1 _ ?_
        have hh := aq hv
        subst hh
        exact nR []
      have hh := aq h
      subst hh
      refine aV ?_
      show FQ _ _ _ _
      exact bo (.inr rfl) (aR (v := vb y24) rfl rfl) (RV.d trivial)
     ·
      replace h := aJ hc16 h
      refine aO (t := (a0.Op == 4)) rfl hc16 ?_
      obtain ⟨y27, hv, h⟩ := au h
      refine ez ⟨tab [(1, vi a1), (2, ax a0), (5, vi (a0.Kids.length : Int)), (99, vb y27)], ac [], 0⟩ ?_ ?_
      ·
       replace h := hv
       refine ai ⟨tab [(1, vi a1), (2, ax a0), (5, vi (a0.Kids.length : Int)), (11, vi a0.Op), (99, vb (a0.Op == 6))], ac [], 0⟩ ?_ ?_
       ·
        iterate 2 refine q1 _ ?_
        exact nR []
       by_cases hc26 : (a0.Op == 6) = true
       ·
        replace h := aI hc26 h
        refine aQ (t := (a0.Op == 6)) rfl hc26 ?_
        have hh := aq h
        subst hh
        refine a8 (s0 := ⟨tab [(1, vi a1), (2, ax a0), (5, vi (a0.Kids.length : Int)), (99, vb (a0.Op == 6))], ac [], 0⟩) (nr []) ?_
        refine bd ?_
        exact And.intro rfl rfl
       ·
        replace h := aJ hc26 h
        refine aO (t := (a0.Op == 6)) rfl hc26 ?_
        have hh := aq h
        subst hh
        refine bH ⟨tab [(1, vi a1), (2, ax a0), (5, vi (a0.Kids.length : Int)), (99, vb (a0.Op == 7))], ac [], 0⟩ ?_ ?_
        ·
         iterate 2 refine q1 _ ?_
         exact nR []
        exact And.intro rfl rfl
      by_cases hc29 : y27 = true
      ·
       replace h := aI hc29 h
       refine aQ (t := y27) rfl hc29 ?_
       refine aG ?_
       refine ai ⟨tab [(1, vi a1), (2, ax a0), (5, vi (a0.Kids.length : Int)), (113, vb ((decide ((a0.Kids.length : Int) < 2)) || ((a0.F != 0) || (a0.N != 0))))], ac [], 0⟩ ?_ ?_
       ·
        iterate 3 refine q1 _ ?_
        by_cases hg30 : decide ((a0.Kids.length : Int) < 2) = true
        ·
         iterate 3 refine qX (decide ((a0.Kids.length : Int) < 2)) (by rw [hg30]; decide) ?_
         refine step (v := vb true) (aU (b := decide ((a0.Kids.length : Int) < 2)) rfl hg30 rfl) ?_
         refine q1 _ ?_
         iterate 3 refine qX true (by decide) ?_
         refine step (v := vb true) (aU (b := true) rfl rfl rfl) ?_
         exact aP.nil' (nm [] ⟨.d _, .d _, .d _, .eq (by first | (simp [hg30]; done) | (simp_all; done) | grind), trivial⟩ trivial)
        ·
         refine qG (decide ((a0.Kids.length : Int) < 2)) (Bool.eq_false_iff.2 hg30) ?_
         refine q1 _ ?_
         refine qG (decide ((a0.Kids.length : Int) < 2)) (Bool.eq_false_iff.2 hg30) ?_
         refine q1 _ ?_
         refine qG (decide ((a0.Kids.length : Int) < 2)) (Bool.eq_false_iff.2 hg30) ?_
         refine q1 _ ?_
         refine step (v := vb (a0.F != 0)) (aY (b := decide ((a0.Kids.length : Int) < 2)) rfl hg30 rfl) ?_
         refine q1 _ ?_
         by_cases hg31 : (a0.F != 0) = true
         ·
          iterate 3 refine qX (a0.F != 0) (by rw [hg31]; decide) ?_
          refine step (v := vb true) (aU (b := (a0.F != 0)) rfl hg31 rfl) ?_
          exact aP.nil' (nm [] ⟨.d _, .d _, .d _, .eq (by first | (simp [hg30, hg31]; done) | (simp_all; done) | grind), trivial⟩ trivial)
         ·
          refine qG (a0.F != 0) (Bool.eq_false_iff.2 hg31) ?_
          refine q1 _ ?_
          refine qG (a0.F != 0) (Bool.eq_false_iff.2 hg31) ?_
          refine q1 _ ?_
          refine qG (a0.F != 0) (Bool.eq_false_iff.2 hg31) ?_
          refine q1 _ ?_
          refine step (v := vb (a0.N != 0)) (aY (b := (a0.F != 0)) rfl hg31 rfl) ?_
          exact aP.nil' (nm [] ⟨.d _, .d _, .d _, .eq (by first | (simp [hg30, hg31]; done) | (simp_all; done) | grind), trivial⟩ trivial)
       by_cases hc32 : ((decide ((a0.Kids.length : Int) < 2)) || ((a0.F != 0) || (a0.N != 0))) = true
       ·
        replace h := aI hc32 h
        refine aQ (t := ((decide ((a0.Kids.length : Int) < 2)) || ((a0.F != 0) || (a0.N != 0)))) rfl hc32 ?_
        refine ai ⟨tab [(4, vb false)], ac [], 0⟩ ?_ ?_
        ·
         refine q1 _ ?_
         exact nR []
        have hh := aq h
        subst hh
        refine aV ?_
        show FQ _ _ _ _
        exact bo (.inr rfl) (aR (v := vb false) rfl rfl) (RV.d trivial)
       ·
        replace h := aJ hc32 h
        refine aO (t := ((decide ((a0.Kids.length : Int) < 2)) || ((a0.F != 0) || (a0.N != 0)))) rfl hc32 ?_
        refine bd ?_
        refine aG ?_
        refine ai ⟨tab [(1, vi a1), (2, ax a0), (5, vi (a0.Kids.length : Int)), (6, vi 0)], ac [], 0⟩ ?_ ?_
        ·
         refine q1 _ ?_
         exact nR []
        obtain ⟨q42, hl, h⟩ := au h
        refine bD ?_
        refine dG (cB (a0.Kids.length : Int)) (fun (i33 : Int) (qq : Unit) => ⟨tab [(1, vi a1), (2, ax a0), (5, vi (a0.Kids.length : Int)), (6, vi i33)], ac [], 0⟩) 1 (fun (qq : Unit) => ⟨tab [], ac [], 0⟩) bF cC (r := r) hl (by unfold bF; omega) ?_ ?_ ?_ ?_
        ·
         rintro i33 ⟨⟩ xr38 hinv36 hgo35 h
         show aK _ _ _ _ _ ⟨tab [(1, vi a1), (2, ax a0), (5, vi (a0.Kids.length : Int)), (6, vi i33)], ac [], 0⟩
         have hc37 : decide (i33 < (a0.Kids.length : Int)) = true := decide_eq_true hgo35
         refine aG ?_
         refine ai ⟨tab [(1, vi a1), (2, ax a0), (5, vi (a0.Kids.length : Int)), (6, vi i33), (115, vi (a0.Kids.length : Int)), (116, vb (decide (i33 < (a0.Kids.length : Int))))], ac [], 0⟩ ?_ ?_
         ·
          iterate 3 refine q1 _ ?_
          exact nR []
         refine cP 115 rfl fun hB34 => ?_
         refine aQ (t := decide (i33 < (a0.Kids.length : Int))) rfl hc37 ?_
         refine bd ?_
         refine aG ?_
         refine bD ?_
         obtain ⟨x39, hx39, h⟩ := au h
         obtain ⟨r40, hr40, h⟩ := au h
         refine ai ⟨tab [(1, vi a1), (2, ax a0), (5, vi (a0.Kids.length : Int)), (6, vi i33), (126, vb (!r40))], ac [], 0⟩ ?_ ?_
         ·
          iterate 3 refine q1 _ ?_
          refine step (v := ax x39) (dH (xs := a0.Kids) (e := aF) hx39 rfl rfl (cF _)) ?_
          iterate 2 refine q1 _ ?_
          refine bt (r := .bool r40) (aH (aH aT.nil')) (hself _ _ _ hr40) ?_
          refine q1 _ ?_
          exact nR []
         by_cases hc41 : (!r40) = true
         ·
          replace h := aI hc41 h
          refine aQ (t := (!r40)) rfl hc41 ?_
          refine ai ⟨tab [(4, vb false)], ac [], 0⟩ ?_ ?_
          ·
           refine q1 _ ?_
           exact nR []
          obtain ⟨r42, kr42, hr⟩ := cq (o := some false) (g := Br.ret) h
          subst hr
          have h := kr42
          have hh := aq h
          subst hh
          refine aV ?_
          refine And.intro (fun hn => nomatch hn) ?_
          intro hq
          have hq := hq.symm
          subst hq
          show FQ _ _ _ _
          exact bo (.inr rfl) (aR (v := vb false) rfl rfl) (RV.d trivial)
         ·
          replace h := aJ hc41 h
          refine aO (t := (!r40)) rfl hc41 ?_
          refine bd ?_
          have hh := aq h
          subst hh
          refine bH ⟨tab [(1, vi a1), (2, ax a0), (5, vi (a0.Kids.length : Int)), (6, vi (i33 + 1))], ac [], 0⟩ ?_ ?_
          ·
           refine q1 _ ?_
           refine step (v := vi (i33 + 1)) (cD (cE hinv36 hgo35 hB34) rfl rfl) ?_
           refine q1 _ ?_
           exact nR []
          exact And.intro rfl rfl
        ·
         rintro i33 ⟨⟩ hinv36 hgo35
         show aK _ _ _ _ _ ⟨tab [(1, vi a1), (2, ax a0), (5, vi (a0.Kids.length : Int)), (6, vi i33)], ac [], 0⟩
         have hc37 : ¬ (decide (i33 < (a0.Kids.length : Int)) = true) := fun hq => hgo35 (of_decide_eq_true hq)
         refine aG ?_
         refine ai ⟨tab [(1, vi a1), (2, ax a0), (5, vi (a0.Kids.length : Int)), (6, vi i33), (116, vb (decide (i33 < (a0.Kids.length : Int))))], ac [], 0⟩ ?_ ?_
         ·
          iterate 3 refine q1 _ ?_
          exact nR []
         refine aO (t := decide (i33 < (a0.Kids.length : Int))) rfl hc37 ?_
         refine a8 (s0 := ⟨tab [], ac [], 0⟩) (nr []) ?_
         refine cz ?_
         exact And.intro rfl rfl
        ·
         intro r' hq
         subst hq
         exact aq h
        rintro ⟨⟩ rfl
        refine ai ⟨tab [(4, vb true)], ac [], 0⟩ ?_ ?_
        ·
         refine q1 _ ?_
         exact nR []
        have hh := aq h
        subst hh
        refine aV ?_
        show FQ _ _ _ _
        exact bo (.inr rfl) (aR (v := vb true) rfl rfl) (RV.d trivial)
      ·
       replace h := aJ hc29 h
       refine aO (t := y27) rfl hc29 ?_
       refine bd ?_
       refine ai ⟨tab [(4, vb false)], ac [], 0⟩ ?_ ?_
       ·
        refine q1 _ ?_
        exact nR []
       have hh := aq h
       subst hh
       refine aV ?_
       show FQ _ _ _ _
       exact bo (.inr rfl) (aR (v := vb false) rfl rfl) (RV.d trivial)
theorem rN : ∀ (k : Nat) (a0 : aj) (a1 : Int) (r : Bool), iL k a0 a1 = some r → PCall Try.prog 82 [br a0, .int .i64 a1] (.bool r)
 | 0, _, _, _, h => by cases h
 | k + 1, _, _, _, h => y8 (rN k) h
theorem za {a0 : aj} {a1 : Int} {r : Bool} (h : m8 a0 a1 = some r) : PCall Try.prog 82 [br a0, .int .i64 a1] (.bool r) := rN cA _ _ _ h
theorem n9 {a0 : (List eQ)} {a1 : Int} {r : Bool} (h : k8 a0 a1 = some r) : PCall Try.prog 83 [eL (some 2) cM a0, .int .i64 a1] (.bool r) := by
 refine PCall.introN xI (show 2 ≤ 45 by decide) ?_
 refine a8 (s0 := ⟨tab [(0, bB a0), (1, vi a1)], ac [], 0⟩) (nr []) ?_
 refine ai ⟨tab [(0, bB a0), (1, vi a1)], ac [], 0⟩ ?_ ?_
 ·
  refine q1 _ ?_
  exact nR []
 refine aG ?_
 refine ai ⟨tab [(0, bB a0), (1, vi a1), (5, vi 0)], ac [], 0⟩ ?_ ?_
 ·
  refine q1 _ ?_
  exact nR []
 obtain ⟨q15, hl, h⟩ := au h
 refine bD ?_
 refine dG (cB (a0.length : Int)) (fun (i1 : Int) (qq : Unit) => ⟨tab [(0, bB a0), (1, vi a1), (5, vi i1)], ac [], 0⟩) 0 (fun (qq : Unit) => ⟨tab [], ac [], 0⟩) bF cC (r := r) hl (by unfold bF; omega) ?_ ?_ ?_ ?_
 ·
  rintro i1 ⟨⟩ xr6 hinv4 hgo3 h
  show aK _ _ _ _ _ ⟨tab [(0, bB a0), (1, vi a1), (5, vi i1)], ac [], 0⟩
  have hc5 : decide (i1 < (a0.length : Int)) = true := decide_eq_true hgo3
  refine aG ?_
  refine ai ⟨tab [(0, bB a0), (1, vi a1), (5, vi i1), (8, vi (a0.length : Int)), (9, vb (decide (i1 < (a0.length : Int))))], ac [], 0⟩ ?_ ?_
  ·
   iterate 2 refine q1 _ ?_
   refine step (v := vi (a0.length : Int)) (bz (xs := a0) (e := cM) rfl) ?_
   refine q1 _ ?_
   exact nR []
  refine cP 8 rfl fun hB2 => ?_
  refine aQ (t := decide (i1 < (a0.length : Int))) rfl hc5 ?_
  refine bd ?_
  refine aG ?_
  refine bD ?_
  obtain ⟨x7, hx7, h⟩ := au h
  obtain ⟨y12, hv, h⟩ := au h
  refine ai ⟨tab [(0, bB a0), (1, vi a1), (5, vi i1), (44, vb y12)], ac [], 0⟩ ?_ ?_
  ·
   iterate 2 refine q1 _ ?_
   refine step (v := fV x7) (cK (xs := a0) (e := cM) hx7 rfl rfl) ?_
   iterate 4 refine q1 _ ?_
   by_cases hg8 : decide (x7.F < 0) = true
   ·
    replace hv := aI hg8 hv
    iterate 7 refine qX (decide (x7.F < 0)) (by rw [hg8]; decide) ?_
    refine step (v := vb true) (aU (b := decide (x7.F < 0)) rfl hg8 rfl) ?_
    refine q1 _ ?_
    iterate 3 refine qX true (by decide) ?_
    refine bL rfl ?_
    refine bL rfl ?_
    refine bL rfl ?_
    refine bL rfl ?_
    refine bL rfl ?_
    refine bL rfl ?_
    refine bL rfl ?_
    refine bL rfl ?_
    refine bL rfl ?_
    refine bL rfl ?_
    refine bL rfl ?_
    refine bL rfl ?_
    refine qX true (by decide) ?_
    refine step (v := vb true) (aU (b := true) rfl rfl rfl) ?_
    have hh := aq hv
    subst hh
    exact nR []
   ·
    replace hv := aJ hg8 hv
    refine qG (decide (x7.F < 0)) (Bool.eq_false_iff.2 hg8) ?_
    refine q1 _ ?_
    refine qG (decide (x7.F < 0)) (Bool.eq_false_iff.2 hg8) ?_
    refine q1 _ ?_
    refine qG (decide (x7.F < 0)) (Bool.eq_false_iff.2 hg8) ?_
    refine step (v := fV x7) (cK (xs := a0) (e := cM) hx7 rfl rfl) ?_
    refine qG (decide (x7.F < 0)) (Bool.eq_false_iff.2 hg8) ?_
    refine q1 _ ?_
    refine qG (decide (x7.F < 0)) (Bool.eq_false_iff.2 hg8) ?_
    refine q1 _ ?_
    refine qG (decide (x7.F < 0)) (Bool.eq_false_iff.2 hg8) ?_
    refine q1 _ ?_
    refine qG (decide (x7.F < 0)) (Bool.eq_false_iff.2 hg8) ?_
    refine q1 _ ?_
    refine step (v := vb (decide (x7.F ≥ a1))) (aY (b := decide (x7.F < 0)) rfl hg8 rfl) ?_
    refine q1 _ ?_
    by_cases hg9 : decide (x7.F ≥ a1) = true
    ·
     replace hv := aI hg9 hv
     iterate 3 refine qX (decide (x7.F ≥ a1)) (by rw [hg9]; decide) ?_
     refine bL rfl ?_
     refine bL rfl ?_
     refine bL rfl ?_
     refine bL rfl ?_
     refine bL rfl ?_
     refine bL rfl ?_
     refine bL rfl ?_
     refine bL rfl ?_
     refine bL rfl ?_
     refine bL rfl ?_
     refine bL rfl ?_
     refine bL rfl ?_
     refine qX (decide (x7.F ≥ a1)) (by rw [hg9]; decide) ?_
     refine step (v := vb true) (aU (b := decide (x7.F ≥ a1)) rfl hg9 rfl) ?_
     have hh := aq hv
     subst hh
     exact nR []
    ·
     replace hv := aJ hg9 hv
     refine qG (decide (x7.F ≥ a1)) (Bool.eq_false_iff.2 hg9) ?_
     refine q1 _ ?_
     refine qG (decide (x7.F ≥ a1)) (Bool.eq_false_iff.2 hg9) ?_
     refine q1 _ ?_
     refine qG (decide (x7.F ≥ a1)) (Bool.eq_false_iff.2 hg9) ?_
     refine q1 _ ?_
     by_cases hg10 : decide (i1 > 0) = true
     ·
      replace hv := aI hg10 hv
      obtain ⟨x11, hx11, hv⟩ := au hv
      refine qG _ hg10 ?_
      refine q1 _ ?_
      refine qG _ hg10 ?_
      refine q1 _ ?_
      refine qG _ hg10 ?_
      refine q1 _ ?_
      refine qG _ hg10 ?_
      refine step (v := fV x11) (cK (xs := a0) (e := cM) hx11 rfl rfl) ?_
      refine qG _ hg10 ?_
      refine q1 _ ?_
      refine qG _ hg10 ?_
      refine q1 _ ?_
      refine qG _ hg10 ?_
      refine q1 _ ?_
      refine qG _ hg10 ?_
      refine q1 _ ?_
      refine qG _ hg10 ?_
      refine step (v := fV x7) (cK (xs := a0) (e := cM) hx7 rfl rfl) ?_
      refine qG _ hg10 ?_
      refine q1 _ ?_
      refine qG _ hg10 ?_
      refine q1 _ ?_
      refine qG _ hg10 ?_
      refine q1 _ ?_
      refine qG (decide (x7.F ≥ a1)) (Bool.eq_false_iff.2 hg9) ?_
      refine step (v := vb (decide (x11.F ≥ x7.F))) (aU (b := decide (i1 > 0)) rfl hg10 rfl) ?_
      refine step (v := vb (decide (x11.F ≥ x7.F))) (aY (b := decide (x7.F ≥ a1)) rfl hg9 rfl) ?_
      have hh := aq hv
      subst hh
      exact nR []
     ·
      replace hv := aJ hg10 hv
      iterate 12 refine qX _ hg10 ?_
      refine qG (decide (x7.F ≥ a1)) (Bool.eq_false_iff.2 hg9) ?_
      refine step (v := vb false) (aY (b := decide (i1 > 0)) rfl hg10 rfl) ?_
      refine step (v := vb false) (aY (b := decide (x7.F ≥ a1)) rfl hg9 rfl) ?_
      have hh := aq hv
      subst hh
      exact nR []
  by_cases hc14 : y12 = true
  ·
   replace h := aI hc14 h
   refine aQ (t := y12) rfl hc14 ?_
   refine ai ⟨tab [(4, vb false)], ac [], 0⟩ ?_ ?_
   ·
    refine q1 _ ?_
    exact nR []
   obtain ⟨r15, kr15, hr⟩ := cq (o := some false) (g := Br.ret) h
   subst hr
   have h := kr15
   have hh := aq h
   subst hh
   refine aV ?_
   refine And.intro (fun hn => nomatch hn) ?_
   intro hq
   have hq := hq.symm
   subst hq
   show FQ _ _ _ _
   exact bo (.inr rfl) (aR (v := vb false) rfl rfl) (RV.d trivial)
  ·
   replace h := aJ hc14 h
   refine aO (t := y12) rfl hc14 ?_
   refine bd ?_
   have hh := aq h
   subst hh
   refine bH ⟨tab [(0, bB a0), (1, vi a1), (5, vi (i1 + 1))], ac [], 0⟩ ?_ ?_
   ·
    refine q1 _ ?_
    refine step (v := vi (i1 + 1)) (cD (cE hinv4 hgo3 hB2) rfl rfl) ?_
    refine q1 _ ?_
    exact nR []
   exact And.intro rfl rfl
 ·
  rintro i1 ⟨⟩ hinv4 hgo3
  show aK _ _ _ _ _ ⟨tab [(0, bB a0), (1, vi a1), (5, vi i1)], ac [], 0⟩
  have hc5 : ¬ (decide (i1 < (a0.length : Int)) = true) := fun hq => hgo3 (of_decide_eq_true hq)
  refine aG ?_
  refine ai ⟨tab [(0, bB a0), (1, vi a1), (5, vi i1), (9, vb (decide (i1 < (a0.length : Int))))], ac [], 0⟩ ?_ ?_
  ·
   iterate 2 refine q1 _ ?_
   refine step (v := vi (a0.length : Int)) (bz (xs := a0) (e := cM) rfl) ?_
   refine q1 _ ?_
   exact nR []
  refine aO (t := decide (i1 < (a0.length : Int))) rfl hc5 ?_
  refine a8 (s0 := ⟨tab [], ac [], 0⟩) (nr []) ?_
  refine cz ?_
  exact And.intro rfl rfl
 ·
  intro r' hq
  subst hq
  exact aq h
 rintro ⟨⟩ rfl
 refine ai ⟨tab [(4, vb true)], ac [], 0⟩ ?_ ?_
 ·
  refine q1 _ ?_
  exact nR []
 have hh := aq h
 subst hh
 refine aV ?_
 show FQ _ _ _ _
 exact bo (.inr rfl) (aR (v := vb true) rfl rfl) (RV.d trivial)
theorem zb {a0 : dJ} {r : Int} (h : k9 a0 = some r) : PCall Try.prog 56 [i7 a0] (.int .i64 r) := by
 refine PCall.introN xL (show 1 ≤ 102 by decide) ?_
 refine a8 (s0 := ⟨tab [(0, .d (i7 a0))], ac [], 0⟩) (nr []) ?_
 refine ai ⟨tab [(1, dS a0)], ac [], 0⟩ ?_ ?_
 ·
  iterate 2 refine q1 _ ?_
  exact nR []
 refine aG ?_
 obtain ⟨y7, hv, h⟩ := au h
 refine ai ⟨tab [(1, dS a0), (32, vb y7)], ac [], 0⟩ ?_ ?_
 ·
  iterate 2 refine q1 _ ?_
  refine step (v := vi (a0.Init.length : Int)) (bz (xs := a0.Init) (e := (D.int .u16)) rfl) ?_
  iterate 2 refine q1 _ ?_
  by_cases hg1 : decide ((a0.Init.length : Int) < 1) = true
  ·
   replace hv := aI hg1 hv
   iterate 4 refine qX (decide ((a0.Init.length : Int) < 1)) (by rw [hg1]; decide) ?_
   refine step (v := vb true) (aU (b := decide ((a0.Init.length : Int) < 1)) rfl hg1 rfl) ?_
   refine q1 _ ?_
   iterate 4 refine qX true (by decide) ?_
   refine step (v := vb true) (aU (b := true) rfl rfl rfl) ?_
   refine q1 _ ?_
   iterate 4 refine qX true (by decide) ?_
   refine step (v := vb true) (aU (b := true) rfl rfl rfl) ?_
   refine q1 _ ?_
   iterate 4 refine qX true (by decide) ?_
   refine step (v := vb true) (aU (b := true) rfl rfl rfl) ?_
   have hh := aq hv
   subst hh
   exact nR []
  ·
   replace hv := aJ hg1 hv
   refine qG (decide ((a0.Init.length : Int) < 1)) (Bool.eq_false_iff.2 hg1) ?_
   refine q1 _ ?_
   refine qG (decide ((a0.Init.length : Int) < 1)) (Bool.eq_false_iff.2 hg1) ?_
   refine q1 _ ?_
   refine qG (decide ((a0.Init.length : Int) < 1)) (Bool.eq_false_iff.2 hg1) ?_
   refine step (v := vi (a0.Init.length : Int)) (bz (xs := a0.Init) (e := (D.int .u16)) rfl) ?_
   refine qG (decide ((a0.Init.length : Int) < 1)) (Bool.eq_false_iff.2 hg1) ?_
   refine q1 _ ?_
   refine step (v := vb (decide ((a0.Init.length : Int) > 4))) (aY (b := decide ((a0.Init.length : Int) < 1)) rfl hg1 rfl) ?_
   refine q1 _ ?_
   by_cases hg2 : decide ((a0.Init.length : Int) > 4) = true
   ·
    replace hv := aI hg2 hv
    iterate 4 refine qX (decide ((a0.Init.length : Int) > 4)) (by rw [hg2]; decide) ?_
    refine step (v := vb true) (aU (b := decide ((a0.Init.length : Int) > 4)) rfl hg2 rfl) ?_
    refine q1 _ ?_
    iterate 4 refine qX true (by decide) ?_
    refine step (v := vb true) (aU (b := true) rfl rfl rfl) ?_
    refine q1 _ ?_
    iterate 4 refine qX true (by decide) ?_
    refine step (v := vb true) (aU (b := true) rfl rfl rfl) ?_
    have hh := aq hv
    subst hh
    exact nR []
   ·
    replace hv := aJ hg2 hv
    obtain ⟨r3, hr3, hv⟩ := au hv
    refine qG (decide ((a0.Init.length : Int) > 4)) (Bool.eq_false_iff.2 hg2) ?_
    refine q1 _ ?_
    refine qG (decide ((a0.Init.length : Int) > 4)) (Bool.eq_false_iff.2 hg2) ?_
    refine q1 _ ?_
    refine qG (decide ((a0.Init.length : Int) > 4)) (Bool.eq_false_iff.2 hg2) ?_
    refine bt (r := .int .i64 r3) (aH aT.nil') (yV hr3) ?_
    refine qG (decide ((a0.Init.length : Int) > 4)) (Bool.eq_false_iff.2 hg2) ?_
    refine q1 _ ?_
    refine step (v := vb (decide (r3 > 300))) (aY (b := decide ((a0.Init.length : Int) > 4)) rfl hg2 rfl) ?_
    refine q1 _ ?_
    by_cases hg4 : decide (r3 > 300) = true
    ·
     replace hv := aI hg4 hv
     iterate 4 refine qX (decide (r3 > 300)) (by rw [hg4]; decide) ?_
     refine step (v := vb true) (aU (b := decide (r3 > 300)) rfl hg4 rfl) ?_
     refine q1 _ ?_
     iterate 4 refine qX true (by decide) ?_
     refine step (v := vb true) (aU (b := true) rfl rfl rfl) ?_
     have hh := aq hv
     subst hh
     exact nR []
    ·
     replace hv := aJ hg4 hv
     obtain ⟨r5, hr5, hv⟩ := au hv
     refine qG (decide (r3 > 300)) (Bool.eq_false_iff.2 hg4) ?_
     refine q1 _ ?_
     refine qG (decide (r3 > 300)) (Bool.eq_false_iff.2 hg4) ?_
     refine q1 _ ?_
     refine qG (decide (r3 > 300)) (Bool.eq_false_iff.2 hg4) ?_
     refine bt (r := .int .i64 r5) (aH aT.nil') (yX hr5) ?_
     refine qG (decide (r3 > 300)) (Bool.eq_false_iff.2 hg4) ?_
     refine q1 _ ?_
     refine step (v := vb (decide (r5 > 20))) (aY (b := decide (r3 > 300)) rfl hg4 rfl) ?_
     refine q1 _ ?_
     by_cases hg6 : decide (r5 > 20) = true
     ·
      replace hv := aI hg6 hv
      iterate 4 refine qX (decide (r5 > 20)) (by rw [hg6]; decide) ?_
      refine step (v := vb true) (aU (b := decide (r5 > 20)) rfl hg6 rfl) ?_
      have hh := aq hv
      subst hh
      exact nR []
     ·
      replace hv := aJ hg6 hv
      refine qG (decide (r5 > 20)) (Bool.eq_false_iff.2 hg6) ?_
      refine q1 _ ?_
      refine qG (decide (r5 > 20)) (Bool.eq_false_iff.2 hg6) ?_
      refine q1 _ ?_
      refine qG (decide (r5 > 20)) (Bool.eq_false_iff.2 hg6) ?_
      refine step (v := vi (a0.Rules.length : Int)) (bz (xs := a0.Rules) (e := fE) rfl) ?_
      refine qG (decide (r5 > 20)) (Bool.eq_false_iff.2 hg6) ?_
      refine q1 _ ?_
      refine step (v := vb (decide ((a0.Rules.length : Int) > 24))) (aY (b := decide (r5 > 20)) rfl hg6 rfl) ?_
      have hh := aq hv
      subst hh
      exact nR []
 by_cases hc9 : y7 = true
 ·
  replace h := aI hc9 h
  refine aQ (t := y7) rfl hc9 ?_
  refine ai ⟨tab [(2, vi 2)], ac [], 0⟩ ?_ ?_
  ·
   refine q1 _ ?_
   exact nR []
  have hh := aq h
  subst hh
  refine aV ?_
  show FQ _ _ _ _
  exact bo (.inr rfl) (aR (v := vi 2) rfl rfl) (RV.d trivial)
 ·
  replace h := aJ hc9 h
  refine aO (t := y7) rfl hc9 ?_
  refine bd ?_
  refine aG ?_
  obtain ⟨r10, hr10, h⟩ := au h
  refine ai ⟨tab [(1, dS a0), (39, vb (!r10))], ac [], 0⟩ ?_ ?_
  ·
   iterate 4 refine q1 _ ?_
   refine step (v := vi (a0.Init.length : Int)) (bz (xs := a0.Init) (e := (D.int .u16)) rfl) ?_
   refine bt (r := .bool r10) (aH (aH aT.nil')) (za hr10) ?_
   refine q1 _ ?_
   exact nR []
  by_cases hc11 : (!r10) = true
  ·
   replace h := aI hc11 h
   refine aQ (t := (!r10)) rfl hc11 ?_
   refine ai ⟨tab [(2, vi 11)], ac [], 0⟩ ?_ ?_
   ·
    refine q1 _ ?_
    exact nR []
   have hh := aq h
   subst hh
   refine aV ?_
   show FQ _ _ _ _
   exact bo (.inr rfl) (aR (v := vi 11) rfl rfl) (RV.d trivial)
  ·
   replace h := aJ hc11 h
   refine aO (t := (!r10)) rfl hc11 ?_
   refine bd ?_
   refine aG ?_
   refine ai ⟨tab [(1, dS a0), (3, vi 0)], ac [], 0⟩ ?_ ?_
   ·
    refine q1 _ ?_
    exact nR []
   obtain ⟨q33, hl, h⟩ := au h
   refine bD ?_
   refine dG (cB (a0.Rules.length : Int)) (fun (i12 : Int) (qq : Unit) => ⟨tab [(1, dS a0), (3, vi i12)], ac [], 0⟩) 0 (fun (qq : Unit) => ⟨tab [], ac [], 0⟩) bF cC (r := r) hl (by unfold bF; omega) ?_ ?_ ?_ ?_
   ·
    rintro i12 ⟨⟩ xr17 hinv15 hgo14 h
    show aK _ _ _ _ _ ⟨tab [(1, dS a0), (3, vi i12)], ac [], 0⟩
    have hc16 : decide (i12 < (a0.Rules.length : Int)) = true := decide_eq_true hgo14
    refine aG ?_
    refine ai ⟨tab [(1, dS a0), (3, vi i12), (43, vi (a0.Rules.length : Int)), (44, vb (decide (i12 < (a0.Rules.length : Int))))], ac [], 0⟩ ?_ ?_
    ·
     iterate 3 refine q1 _ ?_
     refine step (v := vi (a0.Rules.length : Int)) (bz (xs := a0.Rules) (e := fE) rfl) ?_
     refine q1 _ ?_
     exact nR []
    refine cP 43 rfl fun hB13 => ?_
    refine aQ (t := decide (i12 < (a0.Rules.length : Int))) rfl hc16 ?_
    refine bd ?_
    refine aG ?_
    refine bD ?_
    obtain ⟨x18, hx18, h⟩ := au h
    refine ai ⟨tab [(1, dS a0), (3, vi i12), (4, .ptr 0 0 0)], ac [(0, .var [bB x18.When, bB x18.Guard, bB x18.Then])], 1⟩ ?_ ?_
    ·
     iterate 3 refine q1 _ ?_
     refine step (v := .d (.cptr (some 3) (fE x18) 0)) (cK (xs := a0.Rules) (e := fE) hx18 rfl rfl) ?_
     refine q1 _ ?_
     refine step (v := .ptr 0 0 0) (σ' := (ak (ac []) 0 (some (.var [bB [], bB [], bB []])))) (n' := 1) rfl ?_
     refine step (v := V.undef) (σ' := (ak (ak (ac []) 0 (some (.var [bB [], bB [], bB []]))) 0 (some (.var [bB x18.When, bB x18.Guard, bB x18.Then])))) (n' := 1) rfl ?_
     exact nR [0]
    obtain ⟨y30, hv, h⟩ := au h
    refine ai ⟨tab [(1, dS a0), (3, vi i12), (101, vb y30)], ac [], 0⟩ ?_ ?_
    ·
     iterate 2 refine q1 _ ?_
     refine step (v := vi (x18.When.length : Int)) (bz (xs := x18.When) (e := cM) rfl) ?_
     iterate 2 refine q1 _ ?_
     by_cases hg19 : decide ((x18.When.length : Int) < 2) = true
     ·
      replace hv := aI hg19 hv
      iterate 6 refine qX (decide ((x18.When.length : Int) < 2)) (by rw [hg19]; decide) ?_
      refine step (v := vb true) (aU (b := decide ((x18.When.length : Int) < 2)) rfl hg19 rfl) ?_
      refine q1 _ ?_
      iterate 6 refine qX true (by decide) ?_
      refine step (v := vb true) (aU (b := true) rfl rfl rfl) ?_
      refine q1 _ ?_
      iterate 4 refine qX true (by decide) ?_
      refine step (v := vb true) (aU (b := true) rfl rfl rfl) ?_
      refine q1 _ ?_
      iterate 7 refine qX true (by decide) ?_
      refine step (v := vb true) (aU (b := true) rfl rfl rfl) ?_
      refine q1 _ ?_
      iterate 7 refine qX true (by decide) ?_
      refine step (v := vb true) (aU (b := true) rfl rfl rfl) ?_
      refine q1 _ ?_
      iterate 4 refine qX true (by decide) ?_
      refine step (v := vb true) (aU (b := true) rfl rfl rfl) ?_
      have hh := aq hv
      subst hh
      exact nR []
     ·
      replace hv := aJ hg19 hv
      obtain ⟨x20, hx20, hv⟩ := au hv
      refine qG (decide ((x18.When.length : Int) < 2)) (Bool.eq_false_iff.2 hg19) ?_
      refine q1 _ ?_
      refine qG (decide ((x18.When.length : Int) < 2)) (Bool.eq_false_iff.2 hg19) ?_
      refine q1 _ ?_
      refine qG (decide ((x18.When.length : Int) < 2)) (Bool.eq_false_iff.2 hg19) ?_
      refine step (v := fV x20) (cK (xs := x18.When) (e := cM) hx20 rfl rfl) ?_
      refine qG (decide ((x18.When.length : Int) < 2)) (Bool.eq_false_iff.2 hg19) ?_
      refine q1 _ ?_
      refine qG (decide ((x18.When.length : Int) < 2)) (Bool.eq_false_iff.2 hg19) ?_
      refine q1 _ ?_
      refine qG (decide ((x18.When.length : Int) < 2)) (Bool.eq_false_iff.2 hg19) ?_
      refine q1 _ ?_
      refine step (v := vb (x20.F != 0)) (aY (b := decide ((x18.When.length : Int) < 2)) rfl hg19 rfl) ?_
      refine q1 _ ?_
      by_cases hg21 : (x20.F != 0) = true
      ·
       replace hv := aI hg21 hv
       iterate 6 refine qX (x20.F != 0) (by rw [hg21]; decide) ?_
       refine step (v := vb true) (aU (b := (x20.F != 0)) rfl hg21 rfl) ?_
       refine q1 _ ?_
       iterate 4 refine qX true (by decide) ?_
       refine step (v := vb true) (aU (b := true) rfl rfl rfl) ?_
       refine q1 _ ?_
       iterate 7 refine qX true (by decide) ?_
       refine step (v := vb true) (aU (b := true) rfl rfl rfl) ?_
       refine q1 _ ?_
       iterate 7 refine qX true (by decide) ?_
       refine step (v := vb true) (aU (b := true) rfl rfl rfl) ?_
       refine q1 _ ?_
       iterate 4 refine qX true (by decide) ?_
       refine step (v := vb true) (aU (b := true) rfl rfl rfl) ?_
       have hh := aq hv
       subst hh
       exact nR []
      ·
       replace hv := aJ hg21 hv
       obtain ⟨x22, hx22, hv⟩ := au hv
       refine qG (x20.F != 0) (Bool.eq_false_iff.2 hg21) ?_
       refine q1 _ ?_
       refine qG (x20.F != 0) (Bool.eq_false_iff.2 hg21) ?_
       refine q1 _ ?_
       refine qG (x20.F != 0) (Bool.eq_false_iff.2 hg21) ?_
       refine step (v := fV x22) (cK (xs := x18.When) (e := cM) hx22 rfl rfl) ?_
       refine qG (x20.F != 0) (Bool.eq_false_iff.2 hg21) ?_
       refine q1 _ ?_
       refine qG (x20.F != 0) (Bool.eq_false_iff.2 hg21) ?_
       refine q1 _ ?_
       refine qG (x20.F != 0) (Bool.eq_false_iff.2 hg21) ?_
       refine q1 _ ?_
       refine step (v := vb (x22.F != 1)) (aY (b := (x20.F != 0)) rfl hg21 rfl) ?_
       refine q1 _ ?_
       by_cases hg23 : (x22.F != 1) = true
       ·
        replace hv := aI hg23 hv
        iterate 4 refine qX (x22.F != 1) (by rw [hg23]; decide) ?_
        refine step (v := vb true) (aU (b := (x22.F != 1)) rfl hg23 rfl) ?_
        refine q1 _ ?_
        iterate 7 refine qX true (by decide) ?_
        refine step (v := vb true) (aU (b := true) rfl rfl rfl) ?_
        refine q1 _ ?_
        iterate 7 refine qX true (by decide) ?_
        refine step (v := vb true) (aU (b := true) rfl rfl rfl) ?_
        refine q1 _ ?_
        iterate 4 refine qX true (by decide) ?_
        refine step (v := vb true) (aU (b := true) rfl rfl rfl) ?_
        have hh := aq hv
        subst hh
        exact nR []
       ·
        replace hv := aJ hg23 hv
        obtain ⟨r24, hr24, hv⟩ := au hv
        refine qG (x22.F != 1) (Bool.eq_false_iff.2 hg23) ?_
        refine q1 _ ?_
        refine qG (x22.F != 1) (Bool.eq_false_iff.2 hg23) ?_
        refine q1 _ ?_
        refine qG (x22.F != 1) (Bool.eq_false_iff.2 hg23) ?_
        refine bt (r := .bool r24) (aH (aH aT.nil')) (n9 hr24) ?_
        refine qG (x22.F != 1) (Bool.eq_false_iff.2 hg23) ?_
        refine q1 _ ?_
        refine step (v := vb (!r24)) (aY (b := (x22.F != 1)) rfl hg23 rfl) ?_
        refine q1 _ ?_
        by_cases hg25 : (!r24) = true
        ·
         replace hv := aI hg25 hv
         iterate 7 refine qX (!r24) (by rw [hg25]; decide) ?_
         refine step (v := vb true) (aU (b := (!r24)) rfl hg25 rfl) ?_
         refine q1 _ ?_
         iterate 7 refine qX true (by decide) ?_
         refine step (v := vb true) (aU (b := true) rfl rfl rfl) ?_
         refine q1 _ ?_
         iterate 4 refine qX true (by decide) ?_
         refine step (v := vb true) (aU (b := true) rfl rfl rfl) ?_
         have hh := aq hv
         subst hh
         exact nR []
        ·
         replace hv := aJ hg25 hv
         obtain ⟨r26, hr26, hv⟩ := au hv
         refine qG (!r24) (Bool.eq_false_iff.2 hg25) ?_
         refine q1 _ ?_
         refine qG (!r24) (Bool.eq_false_iff.2 hg25) ?_
         refine q1 _ ?_
         refine qG (!r24) (Bool.eq_false_iff.2 hg25) ?_
         refine q1 _ ?_
         refine qG (!r24) (Bool.eq_false_iff.2 hg25) ?_
         refine q1 _ ?_
         refine qG (!r24) (Bool.eq_false_iff.2 hg25) ?_
         refine step (v := vi (a0.Init.length : Int)) (bz (xs := a0.Init) (e := (D.int .u16)) rfl) ?_
         refine qG (!r24) (Bool.eq_false_iff.2 hg25) ?_
         refine bt (r := .bool r26) (aH (aH aT.nil')) (n9 hr26) ?_
         refine qG (!r24) (Bool.eq_false_iff.2 hg25) ?_
         refine q1 _ ?_
         refine step (v := vb (!r26)) (aY (b := (!r24)) rfl hg25 rfl) ?_
         refine q1 _ ?_
         by_cases hg27 : (!r26) = true
         ·
          replace hv := aI hg27 hv
          iterate 7 refine qX (!r26) (by rw [hg27]; decide) ?_
          refine step (v := vb true) (aU (b := (!r26)) rfl hg27 rfl) ?_
          refine q1 _ ?_
          iterate 4 refine qX true (by decide) ?_
          refine step (v := vb true) (aU (b := true) rfl rfl rfl) ?_
          have hh := aq hv
          subst hh
          exact nR []
         ·
          replace hv := aJ hg27 hv
          obtain ⟨r28, hr28, hv⟩ := au hv
          refine qG (!r26) (Bool.eq_false_iff.2 hg27) ?_
          refine q1 _ ?_
          refine qG (!r26) (Bool.eq_false_iff.2 hg27) ?_
          refine q1 _ ?_
          refine qG (!r26) (Bool.eq_false_iff.2 hg27) ?_
          refine q1 _ ?_
          refine qG (!r26) (Bool.eq_false_iff.2 hg27) ?_
          refine q1 _ ?_
          refine qG (!r26) (Bool.eq_false_iff.2 hg27) ?_
          refine step (v := vi (a0.Init.length : Int)) (bz (xs := a0.Init) (e := (D.int .u16)) rfl) ?_
          refine qG (!r26) (Bool.eq_false_iff.2 hg27) ?_
          refine bt (r := .bool r28) (aH (aH aT.nil')) (n9 hr28) ?_
          refine qG (!r26) (Bool.eq_false_iff.2 hg27) ?_
          refine q1 _ ?_
          refine step (v := vb (!r28)) (aY (b := (!r26)) rfl hg27 rfl) ?_
          refine q1 _ ?_
          by_cases hg29 : (!r28) = true
          ·
           replace hv := aI hg29 hv
           iterate 4 refine qX (!r28) (by rw [hg29]; decide) ?_
           refine step (v := vb true) (aU (b := (!r28)) rfl hg29 rfl) ?_
           have hh := aq hv
           subst hh
           exact nR []
          ·
           replace hv := aJ hg29 hv
           refine qG (!r28) (Bool.eq_false_iff.2 hg29) ?_
           refine q1 _ ?_
           refine qG (!r28) (Bool.eq_false_iff.2 hg29) ?_
           refine q1 _ ?_
           refine qG (!r28) (Bool.eq_false_iff.2 hg29) ?_
           refine step (v := vi (x18.Then.length : Int)) (bz (xs := x18.Then) (e := cM) rfl) ?_
           refine qG (!r28) (Bool.eq_false_iff.2 hg29) ?_
           refine q1 _ ?_
           refine step (v := vb ((x18.Then.length : Int) == 0)) (aY (b := (!r28)) rfl hg29 rfl) ?_
           have hh := aq hv
           subst hh
           exact nR []
    by_cases hc32 : y30 = true
    ·
     replace h := aI hc32 h
     refine aQ (t := y30) rfl hc32 ?_
     refine ai ⟨tab [(2, vi 11)], ac [], 0⟩ ?_ ?_
     ·
      refine q1 _ ?_
      exact nR []
     obtain ⟨r33, kr33, hr⟩ := cq (o := some 11) (g := Br.ret) h
     subst hr
     have h := kr33
     have hh := aq h
     subst hh
     refine aV ?_
     refine And.intro (fun hn => nomatch hn) ?_
     intro hq
     have hq := hq.symm
     subst hq
     show FQ _ _ _ _
     exact bo (.inr rfl) (aR (v := vi 11) rfl rfl) (RV.d trivial)
    ·
     replace h := aJ hc32 h
     refine aO (t := y30) rfl hc32 ?_
     refine bd ?_
     have hh := aq h
     subst hh
     refine bH ⟨tab [(1, dS a0), (3, vi (i12 + 1))], ac [], 0⟩ ?_ ?_
     ·
      refine q1 _ ?_
      refine step (v := vi (i12 + 1)) (cD (cE hinv15 hgo14 hB13) rfl rfl) ?_
      refine q1 _ ?_
      exact nR []
     exact And.intro rfl rfl
   ·
    rintro i12 ⟨⟩ hinv15 hgo14
    show aK _ _ _ _ _ ⟨tab [(1, dS a0), (3, vi i12)], ac [], 0⟩
    have hc16 : ¬ (decide (i12 < (a0.Rules.length : Int)) = true) := fun hq => hgo14 (of_decide_eq_true hq)
    refine aG ?_
    refine ai ⟨tab [(1, dS a0), (3, vi i12), (44, vb (decide (i12 < (a0.Rules.length : Int))))], ac [], 0⟩ ?_ ?_
    ·
     iterate 3 refine q1 _ ?_
     refine step (v := vi (a0.Rules.length : Int)) (bz (xs := a0.Rules) (e := fE) rfl) ?_
     refine q1 _ ?_
     exact nR []
    refine aO (t := decide (i12 < (a0.Rules.length : Int))) rfl hc16 ?_
    refine a8 (s0 := ⟨tab [], ac [], 0⟩) (nr []) ?_
    refine cz ?_
    exact And.intro rfl rfl
   ·
    intro r' hq
    subst hq
    exact aq h
   rintro ⟨⟩ rfl
   refine ai ⟨tab [(2, vi 0)], ac [], 0⟩ ?_ ?_
   ·
    refine q1 _ ?_
    exact nR []
   have hh := aq h
   subst hh
   refine aV ?_
   show FQ _ _ _ _
   exact bo (.inr rfl) (aR (v := vi 0) rfl rfl) (RV.d trivial)
theorem ze {a0 : aj} {r : Bool} (h : la a0 = some r) : PCall Try.prog 27 [br a0] (.bool r) := by
 refine PCall.introN xN (show 1 ≤ 8 by decide) ?_
 refine a8 (s0 := ⟨tab [(0, vs1 a0)], ac [], 0⟩) (nr []) ?_
 refine ai ⟨tab [(1, ax a0)], ac [], 0⟩ ?_ ?_
 ·
  iterate 2 refine q1 _ ?_
  exact nR []
 obtain ⟨l1, hl1, h⟩ := au h
 obtain ⟨r2, hr2, h⟩ := au h
 refine ai ⟨tab [(2, vb (r2 == 0))], ac [], 0⟩ ?_ ?_
 ·
  refine step (v := .loc 0 0 l1.length) (σ' := (ak (ac []) 0 (some (.lst false none (List.map (D.int .u16) l1))))) (n' := 1) (my (e := (D.int .u16)) (z := 0) hl1 rfl rfl (mz hl1)) ?_
  iterate 2 refine q1 _ ?_
  refine bt (r := .int .i64 r2) (mu (kD (cQ (jD (xs := l1) (e := (D.int .u16)) rfl rfl) (cQ dy (cQ dy (cQ dy (cQ dy (cQ dy jC))))))) (cI.aggs (by exact ⟨.refl _, .refl _, .refl _, .refl _, .refl _, .refl _, trivial⟩)) aT.nil') (zb hr2) ?_
  iterate 2 refine q1 _ ?_
  exact nR []
 have hh := aq h
 subst hh
 refine aV ?_
 show FQ _ _ _ _
 exact bo (.inr rfl) (aR (v := vb (r2 == 0)) rfl rfl) (RV.d trivial)
theorem zf {a0 : (A8 Int)} {a1 : Int} {a2 : Int} {r : (A8 Int)} (h : lb a0 a1 a2 = some r) : PCall Try.prog 80 [eA8 (D.int .u16) a0, .int .i64 a1, .int .u16 a2] (eA8 (D.int .u16) r) := by
 refine PCall.introN xP (show 3 ≤ 17 by decide) ?_
 refine a8 (s0 := ⟨tab [(0, .d (eA8 (D.int .u16) a0)), (1, vi a1), (2, vh a2)], ac [], 0⟩) (nr []) ?_
 refine ai ⟨tab [(1, vi a1), (2, vh a2), (3, .ptr 0 0 0), (6, .ptr 1 0 0)], ac [(0, .var [vh a0.a0, vh a0.a1, vh a0.a2, vh a0.a3, vh a0.a4, vh a0.a5, vh a0.a6, vh a0.a7]), (1, dC)], 2⟩ ?_ ?_
 ·
  refine step (v := .ptr 0 0 0) (σ' := (ak (ac []) 0 (some (.var [vh a0.a0, vh a0.a1, vh a0.a2, vh a0.a3, vh a0.a4, vh a0.a5, vh a0.a6, vh a0.a7])))) (n' := 1) rfl ?_
  refine step (v := .ptr 1 0 0) (σ' := (ak (ak (ac []) 0 (some (.var [vh a0.a0, vh a0.a1, vh a0.a2, vh a0.a3, vh a0.a4, vh a0.a5, vh a0.a6, vh a0.a7]))) 1 (some (dC)))) (n' := 2) rfl ?_
  exact nR [0, 1]
 obtain ⟨y5, hv, h⟩ := au h
 refine ez ⟨tab [(3, .ptr 0 0 0), (6, .ptr 1 0 0)], ac [(0, .var [vh y5.a0, vh y5.a1, vh y5.a2, vh y5.a3, vh y5.a4, vh y5.a5, vh y5.a6, vh y5.a7]), (1, dC)], 2⟩ ?_ ?_
 ·
  replace h := hv
  refine ai ⟨tab [(1, vi a1), (2, vh a2), (3, .ptr 0 0 0), (6, .ptr 1 0 0), (12, vb ((decide (a1 ≥ 0)) && (decide (a1 < 8))))], ac [(0, .var [vh a0.a0, vh a0.a1, vh a0.a2, vh a0.a3, vh a0.a4, vh a0.a5, vh a0.a6, vh a0.a7]), (1, dC)], 2⟩ ?_ ?_
  ·
   iterate 3 refine q1 _ ?_
   by_cases hg1 : decide (a1 ≥ 0) = true
   ·
    refine qG _ hg1 ?_
    refine q1 _ ?_
    refine qG _ hg1 ?_
    refine q1 _ ?_
    refine step (v := vb (decide (a1 < 8))) (aU (b := decide (a1 ≥ 0)) rfl hg1 rfl) ?_
    exact aP.nil' (nm [0, 1] ⟨.d _, .d _, .pt 0, .pt 1, .eq (by first | (simp [hg1]; done) | (simp_all; done) | grind), trivial⟩ ⟨⟨show 0 < 2 by decide, _, rfl, .vars ⟨.d _, .d _, .d _, .d _, .d _, .d _, .d _, .d _, trivial⟩⟩, ⟨show 1 < 2 by decide, _, rfl, .vars ⟨.d _, .d _, .d _, .d _, .d _, .d _, .d _, .d _, trivial⟩⟩, trivial⟩)
   ·
    iterate 2 refine qX _ hg1 ?_
    refine step (v := vb false) (aY (b := decide (a1 ≥ 0)) rfl hg1 rfl) ?_
    exact aP.nil' (nm [0, 1] ⟨.d _, .d _, .pt 0, .pt 1, .eq (by first | (simp [hg1]; done) | (simp_all; done) | grind), trivial⟩ ⟨⟨show 0 < 2 by decide, _, rfl, .vars ⟨.d _, .d _, .d _, .d _, .d _, .d _, .d _, .d _, trivial⟩⟩, ⟨show 1 < 2 by decide, _, rfl, .vars ⟨.d _, .d _, .d _, .d _, .d _, .d _, .d _, .d _, trivial⟩⟩, trivial⟩)
  by_cases hc2 : ((decide (a1 ≥ 0)) && (decide (a1 < 8))) = true
  ·
   replace h := aI hc2 h
   refine aQ (t := ((decide (a1 ≥ 0)) && (decide (a1 < 8)))) rfl hc2 ?_
   obtain ⟨x3, hx3, h⟩ := au h
   obtain ⟨x4, hx4, h⟩ := au h
   have hh := aq h
   subst hh
   refine bH ⟨tab [(3, .ptr 0 0 0), (6, .ptr 1 0 0)], ac [(0, .var [vh x4.a0, vh x4.a1, vh x4.a2, vh x4.a3, vh x4.a4, vh x4.a5, vh x4.a6, vh x4.a7]), (1, dC)], 2⟩ ?_ ?_
   ·
    iterate 2 refine q1 _ ?_
    refine step (v := .ptr 0 0 (0 + a1.toNat * 1)) (p6 (xs := a0.l) hx3 rfl rfl rfl) ?_
    refine step (v := V.undef) (σ' := (ak (ac [(0, .var [vh a0.a0, vh a0.a1, vh a0.a2, vh a0.a3, vh a0.a4, vh a0.a5, vh a0.a6, vh a0.a7]), (1, dC)]) 0 (some (.var [vh x4.a0, vh x4.a1, vh x4.a2, vh x4.a3, vh x4.a4, vh x4.a5, vh x4.a6, vh x4.a7])))) (n' := 2) (p7 (e := (D.int .u16)) (xs := a0.l) (xs' := x4.l) (pre := []) (post := []) (A8.put_l hx4) rfl rfl rfl rfl rfl rfl) ?_
    exact nR [0, 1]
   exact And.intro rfl rfl
  ·
   replace h := aJ hc2 h
   refine aO (t := ((decide (a1 ≥ 0)) && (decide (a1 < 8)))) rfl hc2 ?_
   have hh := aq h
   subst hh
   refine a8 (s0 := ⟨tab [(3, .ptr 0 0 0), (6, .ptr 1 0 0)], ac [(0, .var [vh a0.a0, vh a0.a1, vh a0.a2, vh a0.a3, vh a0.a4, vh a0.a5, vh a0.a6, vh a0.a7]), (1, dC)], 2⟩) (nr [0, 1]) ?_
   refine bd ?_
   exact And.intro rfl rfl
 refine ai ⟨tab [(6, .ptr 0 0 0)], ac [(0, .var [vh y5.a0, vh y5.a1, vh y5.a2, vh y5.a3, vh y5.a4, vh y5.a5, vh y5.a6, vh y5.a7])], 1⟩ ?_ ?_
 ·
  refine step (v := .d (eA8 (D.int .u16) y5)) (dI (ds := [.int .u16 y5.a0, .int .u16 y5.a1, .int .u16 y5.a2, .int .u16 y5.a3, .int .u16 y5.a4, .int .u16 y5.a5, .int .u16 y5.a6, .int .u16 y5.a7]) rfl rfl (show 8 ≤ 8 by decide) rfl) ?_
  refine step (v := V.undef) (σ' := (ak (ac [(0, .var [vh y5.a0, vh y5.a1, vh y5.a2, vh y5.a3, vh y5.a4, vh y5.a5, vh y5.a6, vh y5.a7]), (1, dC)]) 1 (some (.var [vh y5.a0, vh y5.a1, vh y5.a2, vh y5.a3, vh y5.a4, vh y5.a5, vh y5.a6, vh y5.a7])))) (n' := 2) rfl ?_
  exact nR [1]
 have hh := aq h
 subst hh
 refine aV ?_
 show FQ _ _ _ _
 exact bo (.inr rfl) (hM (ds := [.int .u16 y5.a0, .int .u16 y5.a1, .int .u16 y5.a2, .int .u16 y5.a3, .int .u16 y5.a4, .int .u16 y5.a5, .int .u16 y5.a6, .int .u16 y5.a7]) rfl rfl (show 8 ≤ 8 by decide) rfl rfl) (RV.d trivial)
theorem zg {a0 : (A8 Int)} {a1 : (A8 Int)} {r : Int} (h : lf a0 a1 = some r) : PCall Try.prog 69 [eA8 (D.int .u16) a0, eA8 (D.int .u16) a1] (.int .i64 r) := by
 refine PCall.introN xS (show 2 ≤ 24 by decide) ?_
 refine a8 (s0 := ⟨tab [(0, .d (eA8 (D.int .u16) a0)), (1, .d (eA8 (D.int .u16) a1))], ac [], 0⟩) (nr []) ?_
 refine ai ⟨tab [(2, .d (.cptr (some 8) (eA8 (D.int .u16) a0) 0)), (3, .d (.cptr (some 8) (eA8 (D.int .u16) a1) 0))], ac [], 0⟩ ?_ ?_
 ·
  iterate 3 refine q1 _ ?_
  exact nR []
 refine aG ?_
 refine ai ⟨tab [(2, .d (.cptr (some 8) (eA8 (D.int .u16) a0) 0)), (3, .d (.cptr (some 8) (eA8 (D.int .u16) a1) 0)), (5, vi 0)], ac [], 0⟩ ?_ ?_
 ·
  refine q1 _ ?_
  exact nR []
 obtain ⟨q11, hl, h⟩ := au h
 refine bD ?_
 refine dG (cB 8) (fun (i1 : Int) (qq : Unit) => ⟨tab [(2, .d (.cptr (some 8) (eA8 (D.int .u16) a0) 0)), (3, .d (.cptr (some 8) (eA8 (D.int .u16) a1) 0)), (5, vi i1)], ac [], 0⟩) 0 (fun (qq : Unit) => ⟨tab [], ac [], 0⟩) bF cC (r := r) hl (by unfold bF; omega) ?_ ?_ ?_ ?_
 ·
  rintro i1 ⟨⟩ xr6 hinv4 hgo3 h
  show aK _ _ _ _ _ ⟨tab [(2, .d (.cptr (some 8) (eA8 (D.int .u16) a0) 0)), (3, .d (.cptr (some 8) (eA8 (D.int .u16) a1) 0)), (5, vi i1)], ac [], 0⟩
  have hc5 : decide (i1 < 8) = true := decide_eq_true hgo3
  refine aG ?_
  refine ai ⟨tab [(2, .d (.cptr (some 8) (eA8 (D.int .u16) a0) 0)), (3, .d (.cptr (some 8) (eA8 (D.int .u16) a1) 0)), (5, vi i1), (7, vb (decide (i1 < 8)))], ac [], 0⟩ ?_ ?_
  ·
   iterate 2 refine q1 _ ?_
   exact nR []
  refine aQ (t := decide (i1 < 8)) rfl hc5 ?_
  refine bd ?_
  refine aG ?_
  refine bD ?_
  refine aG ?_
  obtain ⟨x7, hx7, h⟩ := au h
  obtain ⟨x8, hx8, h⟩ := au h
  refine ai ⟨tab [(2, .d (.cptr (some 8) (eA8 (D.int .u16) a0) 0)), (3, .d (.cptr (some 8) (eA8 (D.int .u16) a1) 0)), (5, vi i1), (16, vb (decide (x7 < x8)))], ac [], 0⟩ ?_ ?_
  ·
   refine q1 _ ?_
   refine step (v := .d (.cptr (some 8) (eA8 (D.int .u16) a0) (0 + i1.toNat * 1))) (gE (xs := a0.l) hx7 rfl rfl rfl) ?_
   refine step (v := vh x7) (gD rfl (gC (e := (D.int .u16)) (xs := a0.l) (pre := []) (post := []) hx7 rfl (by decide))) ?_
   refine q1 _ ?_
   refine step (v := .d (.cptr (some 8) (eA8 (D.int .u16) a1) (0 + i1.toNat * 1))) (gE (xs := a1.l) hx8 rfl rfl rfl) ?_
   refine step (v := vh x8) (gD rfl (gC (e := (D.int .u16)) (xs := a1.l) (pre := []) (post := []) hx8 rfl (by decide))) ?_
   refine q1 _ ?_
   exact nR []
  by_cases hc9 : decide (x7 < x8) = true
  ·
   replace h := aI hc9 h
   refine aQ (t := decide (x7 < x8)) rfl hc9 ?_
   refine ai ⟨tab [(4, vi (-1))], ac [], 0⟩ ?_ ?_
   ·
    refine q1 _ ?_
    exact nR []
   obtain ⟨r10, kr10, hr⟩ := cq (o := some (-1)) (g := Br.ret) h
   subst hr
   have h := kr10
   have hh := aq h
   subst hh
   refine aV ?_
   refine And.intro (fun hn => nomatch hn) ?_
   intro hq
   have hq := hq.symm
   subst hq
   show FQ _ _ _ _
   exact bo (.inr rfl) (aR (v := vi (-1)) rfl rfl) (RV.d trivial)
  ·
   replace h := aJ hc9 h
   refine aO (t := decide (x7 < x8)) rfl hc9 ?_
   refine bd ?_
   refine ai ⟨tab [(2, .d (.cptr (some 8) (eA8 (D.int .u16) a0) 0)), (3, .d (.cptr (some 8) (eA8 (D.int .u16) a1) 0)), (5, vi i1), (23, vb (decide (x7 > x8)))], ac [], 0⟩ ?_ ?_
   ·
    refine q1 _ ?_
    refine step (v := .d (.cptr (some 8) (eA8 (D.int .u16) a0) (0 + i1.toNat * 1))) (gE (xs := a0.l) hx7 rfl rfl rfl) ?_
    refine step (v := vh x7) (gD rfl (gC (e := (D.int .u16)) (xs := a0.l) (pre := []) (post := []) hx7 rfl (by decide))) ?_
    refine q1 _ ?_
    refine step (v := .d (.cptr (some 8) (eA8 (D.int .u16) a1) (0 + i1.toNat * 1))) (gE (xs := a1.l) hx8 rfl rfl rfl) ?_
    refine step (v := vh x8) (gD rfl (gC (e := (D.int .u16)) (xs := a1.l) (pre := []) (post := []) hx8 rfl (by decide))) ?_
    refine q1 _ ?_
    exact nR []
   by_cases hc10 : decide (x7 > x8) = true
   ·
    replace h := aI hc10 h
    refine aQ (t := decide (x7 > x8)) rfl hc10 ?_
    refine ai ⟨tab [(4, vi 1)], ac [], 0⟩ ?_ ?_
    ·
     refine q1 _ ?_
     exact nR []
    obtain ⟨r11, kr11, hr⟩ := cq (o := some 1) (g := Br.ret) h
    subst hr
    have h := kr11
    have hh := aq h
    subst hh
    refine aV ?_
    refine And.intro (fun hn => nomatch hn) ?_
    intro hq
    have hq := hq.symm
    subst hq
    show FQ _ _ _ _
    exact bo (.inr rfl) (aR (v := vi 1) rfl rfl) (RV.d trivial)
   ·
    replace h := aJ hc10 h
    refine aO (t := decide (x7 > x8)) rfl hc10 ?_
    refine bd ?_
    have hh := aq h
    subst hh
    refine bH ⟨tab [(2, .d (.cptr (some 8) (eA8 (D.int .u16) a0) 0)), (3, .d (.cptr (some 8) (eA8 (D.int .u16) a1) 0)), (5, vi (i1 + 1))], ac [], 0⟩ ?_ ?_
    ·
     refine q1 _ ?_
     refine step (v := vi (i1 + 1)) (cD (cE hinv4 hgo3 (by decide)) rfl rfl) ?_
     refine q1 _ ?_
     exact nR []
    exact And.intro rfl rfl
 ·
  rintro i1 ⟨⟩ hinv4 hgo3
  show aK _ _ _ _ _ ⟨tab [(2, .d (.cptr (some 8) (eA8 (D.int .u16) a0) 0)), (3, .d (.cptr (some 8) (eA8 (D.int .u16) a1) 0)), (5, vi i1)], ac [], 0⟩
  have hc5 : ¬ (decide (i1 < 8) = true) := fun hq => hgo3 (of_decide_eq_true hq)
  refine aG ?_
  refine ai ⟨tab [(2, .d (.cptr (some 8) (eA8 (D.int .u16) a0) 0)), (3, .d (.cptr (some 8) (eA8 (D.int .u16) a1) 0)), (5, vi i1), (7, vb (decide (i1 < 8)))], ac [], 0⟩ ?_ ?_
  ·
   iterate 2 refine q1 _ ?_
   exact nR []
  refine aO (t := decide (i1 < 8)) rfl hc5 ?_
  refine a8 (s0 := ⟨tab [], ac [], 0⟩) (nr []) ?_
  refine cz ?_
  exact And.intro rfl rfl
 ·
  intro r' hq
  subst hq
  exact aq h
 rintro ⟨⟩ rfl
 refine ai ⟨tab [(4, vi 0)], ac [], 0⟩ ?_ ?_
 ·
  refine q1 _ ?_
  exact nR []
 have hh := aq h
 subst hh
 refine aV ?_
 show FQ _ _ _ _
 exact bo (.inr rfl) (aR (v := vi 0) rfl rfl) (RV.d trivial)
theorem zh {a0 : (List (A8 Int))} {a1 : (A8 Int)} {r : (List (A8 Int))} (h : lh a0 a1 = some r) : PCall Try.prog 102 [eL (some 8) (eA8 (D.int .u16)) a0, eA8 (D.int .u16) a1] (eL (some 8) (eA8 (D.int .u16)) r) := by
 refine PCall.introN xV (show 2 ≤ 47 by decide) ?_
 refine a8 (s0 := ⟨tab [(0, .d (eL (some 8) (eA8 (D.int .u16)) a0)), (1, .d (eA8 (D.int .u16) a1))], ac [], 0⟩) (nr []) ?_
 refine ai ⟨tab [(0, .d (eL (some 8) (eA8 (D.int .u16)) a0)), (3, .d (.cptr (some 8) (eA8 (D.int .u16) a1) 0))], ac [], 0⟩ ?_ ?_
 ·
  iterate 2 refine q1 _ ?_
  exact nR []
 refine ai ⟨tab [(0, .d (eL (some 8) (eA8 (D.int .u16)) a0)), (3, .d (.cptr (some 8) (eA8 (D.int .u16) a1) 0)), (5, .d (.nils))], ac [], 0⟩ ?_ ?_
 ·
  refine q1 _ ?_
  exact nR []
 refine ai ⟨tab [(0, .d (eL (some 8) (eA8 (D.int .u16)) a0)), (3, .d (.cptr (some 8) (eA8 (D.int .u16) a1) 0)), (5, .d (.nils)), (6, vb false)], ac [], 0⟩ ?_ ?_
 ·
  refine q1 _ ?_
  exact nR []
 refine aG ?_
 refine ai ⟨tab [(0, .d (eL (some 8) (eA8 (D.int .u16)) a0)), (3, .d (.cptr (some 8) (eA8 (D.int .u16) a1) 0)), (5, .d (.nils)), (6, vb false), (7, vi 0)], ac [], 0⟩ ?_ ?_
 ·
  refine q1 _ ?_
  exact nR []
 obtain ⟨q28, hl, h⟩ := au h
 obtain ⟨z22, z23⟩ := q28
 refine a8 (s0 := ⟨tab [(0, .d (eL (some 8) (eA8 (D.int .u16)) a0)), (3, .d (.cptr (some 8) (eA8 (D.int .u16) a1) 0)), (5, .loc 0 0 (([] : List (A8 Int)).length)), (6, vb false), (7, vi 0)], ac [(0, .lst false (some 8) (List.map (eA8 (D.int .u16)) ([] : List (A8 Int))))], 1⟩) (bR.trans (s2 := ⟨tab [(0, .d (eL (some 8) (eA8 (D.int .u16)) a0)), (3, .d (.cptr (some 8) (eA8 (D.int .u16) a1) 0)), (5, .loc 0 0 (([] : List (A8 Int)).length)), (6, vb false), (7, vi 0)], ac [(0, .lst false (some 8) (List.map (eA8 (D.int .u16)) ([] : List (A8 Int))))], 1⟩) (jA 5 false (some 8) rfl) (nr [0])) ?_
 refine bD ?_
 refine gA (cB (a0.length : Int)) (fun (i3 : Int) (qq : ((List (A8 Int)) × Bool)) => ⟨tab [(0, .d (eL (some 8) (eA8 (D.int .u16)) a0)), (3, .d (.cptr (some 8) (eA8 (D.int .u16) a1) 0)), (5, .loc 0 0 qq.1.length), (6, vb qq.2), (7, vi i3)], ac [(0, .lst false (some 8) (List.map (eA8 (D.int .u16)) qq.1))], 1⟩) 0 (fun (qq : ((List (A8 Int)) × Bool)) => ⟨tab [(3, .d (.cptr (some 8) (eA8 (D.int .u16) a1) 0)), (5, .loc 0 0 qq.1.length), (6, vb qq.2)], ac [(0, .lst false (some 8) (List.map (eA8 (D.int .u16)) qq.1))], 1⟩) bF cC hl (by unfold bF; omega) ?_ ?_ ?_
 ·
  rintro i3 ⟨l1, y2⟩ xr8 hinv6 hgo5 h
  show aK _ _ _ _ _ ⟨tab [(0, .d (eL (some 8) (eA8 (D.int .u16)) a0)), (3, .d (.cptr (some 8) (eA8 (D.int .u16) a1) 0)), (5, .loc 0 0 l1.length), (6, vb y2), (7, vi i3)], ac [(0, .lst false (some 8) (List.map (eA8 (D.int .u16)) l1))], 1⟩
  have hc7 : decide (i3 < (a0.length : Int)) = true := decide_eq_true hgo5
  refine aG ?_
  refine ai ⟨tab [(0, .d (eL (some 8) (eA8 (D.int .u16)) a0)), (3, .d (.cptr (some 8) (eA8 (D.int .u16) a1) 0)), (5, .loc 0 0 l1.length), (6, vb y2), (7, vi i3), (11, vi (a0.length : Int)), (12, vb (decide (i3 < (a0.length : Int))))], ac [(0, .lst false (some 8) (List.map (eA8 (D.int .u16)) l1))], 1⟩ ?_ ?_
  ·
   iterate 2 refine q1 _ ?_
   refine step (v := vi (a0.length : Int)) (bz (xs := a0) (e := (eA8 (D.int .u16))) rfl) ?_
   refine q1 _ ?_
   exact nR [0]
  refine cP 11 rfl fun hB4 => ?_
  refine aQ (t := decide (i3 < (a0.length : Int))) rfl hc7 ?_
  refine bd ?_
  obtain ⟨q21, hv, h⟩ := au h
  obtain ⟨l19, y20⟩ := q21
  refine ez ⟨tab [(0, .d (eL (some 8) (eA8 (D.int .u16)) a0)), (3, .d (.cptr (some 8) (eA8 (D.int .u16) a1) 0)), (5, .loc 0 0 l19.length), (6, vb y20), (7, vi i3)], ac [(0, .lst false (some 8) (List.map (eA8 (D.int .u16)) l19))], 1⟩ ?_ ?_
  ·
   replace h := hv
   refine bD ?_
   obtain ⟨x9, hx9, h⟩ := au h
   obtain ⟨r10, hr10, h⟩ := au h
   refine ai ⟨tab [(0, .d (eL (some 8) (eA8 (D.int .u16)) a0)), (3, .d (.cptr (some 8) (eA8 (D.int .u16) a1) 0)), (5, .loc 0 0 l1.length), (6, vb y2), (7, vi i3), (8, vi r10)], ac [(0, .lst false (some 8) (List.map (eA8 (D.int .u16)) l1))], 1⟩ ?_ ?_
   ·
    iterate 3 refine q1 _ ?_
    refine step (v := .d (.cptr (some 8) (eA8 (D.int .u16) x9) 0)) (cK (xs := a0) (e := (eA8 (D.int .u16))) hx9 rfl rfl) ?_
    refine q1 _ ?_
    refine bt (r := .int .i64 r10) (aH (aH aT.nil')) (zg hr10) ?_
    refine q1 _ ?_
    exact nR [0]
   obtain ⟨q16, hv, h⟩ := au h
   obtain ⟨l14, y15⟩ := q16
   refine ez ⟨tab [(0, .d (eL (some 8) (eA8 (D.int .u16)) a0)), (3, .d (.cptr (some 8) (eA8 (D.int .u16) a1) 0)), (5, .loc 0 0 l14.length), (6, vb y15), (7, vi i3), (8, vi r10)], ac [(0, .lst false (some 8) (List.map (eA8 (D.int .u16)) l14))], 1⟩ ?_ ?_
   ·
    replace h := hv
    refine ai ⟨tab [(0, .d (eL (some 8) (eA8 (D.int .u16)) a0)), (3, .d (.cptr (some 8) (eA8 (D.int .u16) a1) 0)), (5, .loc 0 0 l1.length), (6, vb y2), (7, vi i3), (8, vi r10), (26, vb ((!y2) && (decide (r10 ≤ 0))))], ac [(0, .lst false (some 8) (List.map (eA8 (D.int .u16)) l1))], 1⟩ ?_ ?_
    ·
     iterate 3 refine q1 _ ?_
     by_cases hg11 : (!y2) = true
     ·
      refine qG _ hg11 ?_
      refine q1 _ ?_
      refine qG _ hg11 ?_
      refine q1 _ ?_
      refine step (v := vb (decide (r10 ≤ 0))) (aU (b := (!y2)) rfl hg11 rfl) ?_
      exact aP.nil' (nm [0] ⟨.d _, .d _, .lc 0, .d _, .d _, .d _, .eq (by first | (simp [hg11]; done) | (simp_all; done) | grind), trivial⟩ ⟨⟨show 0 < 1 by decide, _, rfl, .lst _ _ _⟩, trivial⟩)
     ·
      iterate 2 refine qX _ hg11 ?_
      refine step (v := vb false) (aY (b := (!y2)) rfl hg11 rfl) ?_
      exact aP.nil' (nm [0] ⟨.d _, .d _, .lc 0, .d _, .d _, .d _, .eq (by first | (simp [hg11]; done) | (simp_all; done) | grind), trivial⟩ ⟨⟨show 0 < 1 by decide, _, rfl, .lst _ _ _⟩, trivial⟩)
    by_cases hc12 : ((!y2) && (decide (r10 ≤ 0))) = true
    ·
     replace h := aI hc12 h
     refine aQ (t := ((!y2) && (decide (r10 ≤ 0)))) rfl hc12 ?_
     obtain ⟨l13, hl13, h⟩ := au h
     refine ai ⟨tab [(0, .d (eL (some 8) (eA8 (D.int .u16)) a0)), (3, .d (.cptr (some 8) (eA8 (D.int .u16) a1) 0)), (5, .loc 0 0 l13.length), (7, vi i3), (8, vi r10)], ac [(0, .lst false (some 8) (List.map (eA8 (D.int .u16)) l13))], 1⟩ ?_ ?_
     ·
      iterate 3 refine q1 _ ?_
      refine step (v := .loc 1 0 l13.length) (σ' := (ak (ak (ac [(0, .lst false (some 8) (List.map (eA8 (D.int .u16)) l1))]) 0 none) 1 (some (.lst false (some 8) (List.map (eA8 (D.int .u16)) l13))))) (n' := 2) (fp (xs := l1) (ys := ([a1] : List (A8 Int))) (e := (eA8 (D.int .u16))) hl13 rfl rfl rfl (fM (xs := ([a1] : List (A8 Int))) (e := (eA8 (D.int .u16))) rfl)) ?_
      refine q1 _ ?_
      exact nR [1]
     have hh := aq h
     obtain ⟨he0, ht0⟩ := Prod.mk.inj hh
     subst he0
     subst ht0
     refine bH ⟨tab [(0, .d (eL (some 8) (eA8 (D.int .u16)) a0)), (3, .d (.cptr (some 8) (eA8 (D.int .u16) a1) 0)), (5, .loc 0 0 l13.length), (6, vb true), (7, vi i3), (8, vi r10)], ac [(0, .lst false (some 8) (List.map (eA8 (D.int .u16)) l13))], 1⟩ ?_ ?_
     ·
      refine q1 _ ?_
      exact nR [0]
     exact And.intro rfl rfl
    ·
     replace h := aJ hc12 h
     refine aO (t := ((!y2) && (decide (r10 ≤ 0)))) rfl hc12 ?_
     have hh := aq h
     obtain ⟨he0, ht0⟩ := Prod.mk.inj hh
     subst he0
     subst ht0
     refine a8 (s0 := ⟨tab [(0, .d (eL (some 8) (eA8 (D.int .u16)) a0)), (3, .d (.cptr (some 8) (eA8 (D.int .u16) a1) 0)), (5, .loc 0 0 l1.length), (6, vb y2), (7, vi i3), (8, vi r10)], ac [(0, .lst false (some 8) (List.map (eA8 (D.int .u16)) l1))], 1⟩) (nr [0]) ?_
     refine bd ?_
     exact And.intro rfl rfl
   refine ai ⟨tab [(0, .d (eL (some 8) (eA8 (D.int .u16)) a0)), (3, .d (.cptr (some 8) (eA8 (D.int .u16) a1) 0)), (5, .loc 0 0 l14.length), (6, vb y15), (7, vi i3), (32, vb (r10 != 0))], ac [(0, .lst false (some 8) (List.map (eA8 (D.int .u16)) l14))], 1⟩ ?_ ?_
   ·
    iterate 2 refine q1 _ ?_
    exact nR [0]
   by_cases hc17 : (r10 != 0) = true
   ·
    replace h := aI hc17 h
    refine aQ (t := (r10 != 0)) rfl hc17 ?_
    obtain ⟨l18, hl18, h⟩ := au h
    have hh := aq h
    obtain ⟨he0, ht0⟩ := Prod.mk.inj hh
    subst he0
    subst ht0
    refine bH ⟨tab [(0, .d (eL (some 8) (eA8 (D.int .u16)) a0)), (3, .d (.cptr (some 8) (eA8 (D.int .u16) a1) 0)), (5, .loc 0 0 l18.length), (6, vb y15), (7, vi i3)], ac [(0, .lst false (some 8) (List.map (eA8 (D.int .u16)) l18))], 1⟩ ?_ ?_
    ·
     iterate 3 refine q1 _ ?_
     refine step (v := .d (.cptr (some 8) (eA8 (D.int .u16) x9) 0)) (cK (xs := a0) (e := (eA8 (D.int .u16))) hx9 rfl rfl) ?_
     iterate 2 refine q1 _ ?_
     refine step (v := .loc 1 0 l18.length) (σ' := (ak (ak (ac [(0, .lst false (some 8) (List.map (eA8 (D.int .u16)) l14))]) 0 none) 1 (some (.lst false (some 8) (List.map (eA8 (D.int .u16)) l18))))) (n' := 2) (fp (xs := l14) (ys := ([x9] : List (A8 Int))) (e := (eA8 (D.int .u16))) hl18 rfl rfl rfl (fM (xs := ([x9] : List (A8 Int))) (e := (eA8 (D.int .u16))) rfl)) ?_
     refine q1 _ ?_
     exact nR [1]
    exact And.intro rfl rfl
   ·
    replace h := aJ hc17 h
    refine aO (t := (r10 != 0)) rfl hc17 ?_
    have hh := aq h
    obtain ⟨he0, ht0⟩ := Prod.mk.inj hh
    subst he0
    subst ht0
    refine a8 (s0 := ⟨tab [(0, .d (eL (some 8) (eA8 (D.int .u16)) a0)), (3, .d (.cptr (some 8) (eA8 (D.int .u16) a1) 0)), (5, .loc 0 0 l14.length), (6, vb y15), (7, vi i3)], ac [(0, .lst false (some 8) (List.map (eA8 (D.int .u16)) l14))], 1⟩) (nr [0]) ?_
    refine bd ?_
    exact And.intro rfl rfl
  have hh := aq h
  subst hh
  refine bH ⟨tab [(0, .d (eL (some 8) (eA8 (D.int .u16)) a0)), (3, .d (.cptr (some 8) (eA8 (D.int .u16) a1) 0)), (5, .loc 0 0 l19.length), (6, vb y20), (7, vi (i3 + 1))], ac [(0, .lst false (some 8) (List.map (eA8 (D.int .u16)) l19))], 1⟩ ?_ ?_
  ·
   refine q1 _ ?_
   refine step (v := vi (i3 + 1)) (cD (cE hinv6 hgo5 hB4) rfl rfl) ?_
   refine q1 _ ?_
   exact nR [0]
  exact And.intro rfl rfl
 ·
  rintro i3 ⟨l1, y2⟩ hinv6 hgo5
  show aK _ _ _ _ _ ⟨tab [(0, .d (eL (some 8) (eA8 (D.int .u16)) a0)), (3, .d (.cptr (some 8) (eA8 (D.int .u16) a1) 0)), (5, .loc 0 0 l1.length), (6, vb y2), (7, vi i3)], ac [(0, .lst false (some 8) (List.map (eA8 (D.int .u16)) l1))], 1⟩
  have hc7 : ¬ (decide (i3 < (a0.length : Int)) = true) := fun hq => hgo5 (of_decide_eq_true hq)
  refine aG ?_
  refine ai ⟨tab [(0, .d (eL (some 8) (eA8 (D.int .u16)) a0)), (3, .d (.cptr (some 8) (eA8 (D.int .u16) a1) 0)), (5, .loc 0 0 l1.length), (6, vb y2), (7, vi i3), (12, vb (decide (i3 < (a0.length : Int))))], ac [(0, .lst false (some 8) (List.map (eA8 (D.int .u16)) l1))], 1⟩ ?_ ?_
  ·
   iterate 2 refine q1 _ ?_
   refine step (v := vi (a0.length : Int)) (bz (xs := a0) (e := (eA8 (D.int .u16))) rfl) ?_
   refine q1 _ ?_
   exact nR [0]
  refine aO (t := decide (i3 < (a0.length : Int))) rfl hc7 ?_
  refine a8 (s0 := ⟨tab [(3, .d (.cptr (some 8) (eA8 (D.int .u16) a1) 0)), (5, .loc 0 0 l1.length), (6, vb y2)], ac [(0, .lst false (some 8) (List.map (eA8 (D.int .u16)) l1))], 1⟩) (nr [0]) ?_
  refine cz ?_
  exact And.intro rfl rfl
 obtain ⟨l26, hv, h⟩ := au h
 refine ez ⟨tab [(5, .loc 0 0 l26.length)], ac [(0, .lst false (some 8) (List.map (eA8 (D.int .u16)) l26))], 1⟩ ?_ ?_
 ·
  replace h := hv
  refine ai ⟨tab [(3, .d (.cptr (some 8) (eA8 (D.int .u16) a1) 0)), (5, .loc 0 0 z22.length), (41, vb (!z23))], ac [(0, .lst false (some 8) (List.map (eA8 (D.int .u16)) z22))], 1⟩ ?_ ?_
  ·
   iterate 2 refine q1 _ ?_
   exact nR [0]
  by_cases hc24 : (!z23) = true
  ·
   replace h := aI hc24 h
   refine aQ (t := (!z23)) rfl hc24 ?_
   obtain ⟨l25, hl25, h⟩ := au h
   have hh := aq h
   subst hh
   refine bH ⟨tab [(5, .loc 0 0 l25.length)], ac [(0, .lst false (some 8) (List.map (eA8 (D.int .u16)) l25))], 1⟩ ?_ ?_
   ·
    iterate 3 refine q1 _ ?_
    refine step (v := .loc 1 0 l25.length) (σ' := (ak (ak (ac [(0, .lst false (some 8) (List.map (eA8 (D.int .u16)) z22))]) 0 none) 1 (some (.lst false (some 8) (List.map (eA8 (D.int .u16)) l25))))) (n' := 2) (fp (xs := z22) (ys := ([a1] : List (A8 Int))) (e := (eA8 (D.int .u16))) hl25 rfl rfl rfl (fM (xs := ([a1] : List (A8 Int))) (e := (eA8 (D.int .u16))) rfl)) ?_
    refine q1 _ ?_
    exact nR [1]
   exact And.intro rfl rfl
  ·
   replace h := aJ hc24 h
   refine aO (t := (!z23)) rfl hc24 ?_
   have hh := aq h
   subst hh
   refine a8 (s0 := ⟨tab [(5, .loc 0 0 z22.length)], ac [(0, .lst false (some 8) (List.map (eA8 (D.int .u16)) z22))], 1⟩) (nr [0]) ?_
   refine bd ?_
   exact And.intro rfl rfl
 refine ai ⟨tab [(4, .loc 0 0 l26.length)], ac [(0, .lst false (some 8) (List.map (eA8 (D.int .u16)) l26))], 1⟩ ?_ ?_
 ·
  iterate 2 refine q1 _ ?_
  exact nR [0]
 have hh := aq h
 subst hh
 refine aV ?_
 show FQ _ _ _ _
 exact bo (.inr rfl) (aR (v := .loc 0 0 l26.length) rfl rfl) (RV.loc (xs := l26) (e := (eA8 (D.int .u16))) rfl rfl trivial)
theorem rO {a0 : (List (A8 Int))} {a1 : (List (A8 Int))} {r : (List (A8 Int))} (h : iM a0 a1 = some r) : PCall Try.prog 81 [eL (some 8) (eA8 (D.int .u16)) a0, eL (some 8) (eA8 (D.int .u16)) a1] (eL (some 8) (eA8 (D.int .u16)) r) := by
 refine PCall.introN xY (show 2 ≤ 19 by decide) ?_
 refine a8 (s0 := ⟨tab [(0, .d (eL (some 8) (eA8 (D.int .u16)) a0)), (1, .d (eL (some 8) (eA8 (D.int .u16)) a1))], ac [], 0⟩) (nr []) ?_
 refine ai ⟨tab [(0, .d (eL (some 8) (eA8 (D.int .u16)) a0)), (1, .d (eL (some 8) (eA8 (D.int .u16)) a1))], ac [], 0⟩ ?_ ?_
 ·
  refine q1 _ ?_
  exact nR []
 refine aG ?_
 refine ai ⟨tab [(0, .d (eL (some 8) (eA8 (D.int .u16)) a0)), (1, .d (eL (some 8) (eA8 (D.int .u16)) a1)), (5, vi 0)], ac [], 0⟩ ?_ ?_
 ·
  refine q1 _ ?_
  exact nR []
 obtain ⟨z10, hl, h⟩ := au h
 refine bD ?_
 refine gA (cB (a1.length : Int)) (fun (i2 : Int) (qq : (List (A8 Int))) => ⟨tab [(0, .d (eL (some 8) (eA8 (D.int .u16)) qq)), (1, .d (eL (some 8) (eA8 (D.int .u16)) a1)), (5, vi i2)], ac [], 0⟩) 0 (fun (qq : (List (A8 Int))) => ⟨tab [(0, .d (eL (some 8) (eA8 (D.int .u16)) qq))], ac [], 0⟩) bF cC hl (by unfold bF; omega) ?_ ?_ ?_
 ·
  rintro i2 y1 xr7 hinv5 hgo4 h
  show aK _ _ _ _ _ ⟨tab [(0, .d (eL (some 8) (eA8 (D.int .u16)) y1)), (1, .d (eL (some 8) (eA8 (D.int .u16)) a1)), (5, vi i2)], ac [], 0⟩
  have hc6 : decide (i2 < (a1.length : Int)) = true := decide_eq_true hgo4
  refine aG ?_
  refine ai ⟨tab [(0, .d (eL (some 8) (eA8 (D.int .u16)) y1)), (1, .d (eL (some 8) (eA8 (D.int .u16)) a1)), (5, vi i2), (8, vi (a1.length : Int)), (9, vb (decide (i2 < (a1.length : Int))))], ac [], 0⟩ ?_ ?_
  ·
   iterate 2 refine q1 _ ?_
   refine step (v := vi (a1.length : Int)) (bz (xs := a1) (e := (eA8 (D.int .u16))) rfl) ?_
   refine q1 _ ?_
   exact nR []
  refine cP 8 rfl fun hB3 => ?_
  refine aQ (t := decide (i2 < (a1.length : Int))) rfl hc6 ?_
  refine bd ?_
  refine aG ?_
  refine bD ?_
  obtain ⟨x8, hx8, h⟩ := au h
  obtain ⟨r9, hr9, h⟩ := au h
  refine bH ⟨tab [(0, .d (eL (some 8) (eA8 (D.int .u16)) r9)), (1, .d (eL (some 8) (eA8 (D.int .u16)) a1)), (5, vi i2)], ac [], 0⟩ ?_ ?_
  ·
   iterate 3 refine q1 _ ?_
   refine step (v := .d (.cptr (some 8) (eA8 (D.int .u16) x8) 0)) (cK (xs := a1) (e := (eA8 (D.int .u16))) hx8 rfl rfl) ?_
   refine q1 _ ?_
   refine bt (r := eL (some 8) (eA8 (D.int .u16)) r9) (aH (aH aT.nil')) (zh hr9) ?_
   refine q1 _ ?_
   exact nR []
  have hh := aq h
  subst hh
  refine bH ⟨tab [(0, .d (eL (some 8) (eA8 (D.int .u16)) r9)), (1, .d (eL (some 8) (eA8 (D.int .u16)) a1)), (5, vi (i2 + 1))], ac [], 0⟩ ?_ ?_
  ·
   refine q1 _ ?_
   refine step (v := vi (i2 + 1)) (cD (cE hinv5 hgo4 hB3) rfl rfl) ?_
   refine q1 _ ?_
   exact nR []
  exact And.intro rfl rfl
 ·
  rintro i2 y1 hinv5 hgo4
  show aK _ _ _ _ _ ⟨tab [(0, .d (eL (some 8) (eA8 (D.int .u16)) y1)), (1, .d (eL (some 8) (eA8 (D.int .u16)) a1)), (5, vi i2)], ac [], 0⟩
  have hc6 : ¬ (decide (i2 < (a1.length : Int)) = true) := fun hq => hgo4 (of_decide_eq_true hq)
  refine aG ?_
  refine ai ⟨tab [(0, .d (eL (some 8) (eA8 (D.int .u16)) y1)), (1, .d (eL (some 8) (eA8 (D.int .u16)) a1)), (5, vi i2), (9, vb (decide (i2 < (a1.length : Int))))], ac [], 0⟩ ?_ ?_
  ·
   iterate 2 refine q1 _ ?_
   refine step (v := vi (a1.length : Int)) (bz (xs := a1) (e := (eA8 (D.int .u16))) rfl) ?_
   refine q1 _ ?_
   exact nR []
  refine aO (t := decide (i2 < (a1.length : Int))) rfl hc6 ?_
  refine a8 (s0 := ⟨tab [(0, .d (eL (some 8) (eA8 (D.int .u16)) y1))], ac [], 0⟩) (nr []) ?_
  refine cz ?_
  exact And.intro rfl rfl
 refine ai ⟨tab [(4, .d (eL (some 8) (eA8 (D.int .u16)) z10))], ac [], 0⟩ ?_ ?_
 ·
  iterate 2 refine q1 _ ?_
  exact nR []
 have hh := aq h
 subst hh
 refine aV ?_
 show FQ _ _ _ _
 exact bo (.inr rfl) (aR (v := .d (eL (some 8) (eA8 (D.int .u16)) z10)) rfl rfl) (RV.d trivial)
theorem zj {self : aj → (List Int) → (A8 Int) → Option ((List (A8 Int)) × Bool)} (hself : ∀ (a0 : aj) (a1 : (List Int)) (a2 : (A8 Int)) (r : ((List (A8 Int)) × Bool)), self a0 a1 a2 = some r → PCall Try.prog 51 [br a0, eL none (D.int .u16) a1, eA8 (D.int .u16) a2] (.tup [eL (some 8) (eA8 (D.int .u16)) r.1, .bool r.2])) {a0 : aj} {a1 : (List Int)} {a2 : (A8 Int)} {r : ((List (A8 Int)) × Bool)} (h : lk self a0 a1 a2 = some r) : PCall Try.prog 51 [br a0, eL none (D.int .u16) a1, eA8 (D.int .u16) a2] (.tup [eL (some 8) (eA8 (D.int .u16)) r.1, .bool r.2]) := by
 refine PCall.introN yd (show 3 ≤ 151 by decide) ?_
 refine a8 (s0 := ⟨tab [(0, vs1 a0), (1, aS a1), (2, .d (eA8 (D.int .u16) a2))], ac [], 0⟩) (nr []) ?_
 refine ai ⟨tab [(1, aS a1), (3, ax a0), (5, .d (.cptr (some 8) (eA8 (D.int .u16) a2) 0))], ac [], 0⟩ ?_ ?_
 ·
  iterate 4 refine q1 _ ?_
  exact nR []
 refine ai ⟨tab [(1, aS a1), (3, ax a0), (5, .d (.cptr (some 8) (eA8 (D.int .u16) a2) 0)), (8, .d (eL (some 8) (eA8 (D.int .u16)) ([a2] : List (A8 Int))))], ac [], 0⟩ ?_ ?_
 ·
  iterate 3 refine q1 _ ?_
  exact nR []
 refine aG ?_
 refine ai ⟨tab [(1, aS a1), (3, ax a0), (5, .d (.cptr (some 8) (eA8 (D.int .u16) a2) 0)), (8, .d (eL (some 8) (eA8 (D.int .u16)) ([a2] : List (A8 Int)))), (24, vi a0.Op)], ac [], 0⟩ ?_ ?_
 ·
  iterate 2 refine q1 _ ?_
  exact nR []
 refine bD ?_
 refine ai ⟨tab [(1, aS a1), (3, ax a0), (5, .d (.cptr (some 8) (eA8 (D.int .u16) a2) 0)), (8, .d (eL (some 8) (eA8 (D.int .u16)) ([a2] : List (A8 Int)))), (24, vi a0.Op), (25, vb (a0.Op == 0))], ac [], 0⟩ ?_ ?_
 ·
  iterate 2 refine q1 _ ?_
  exact nR []
 by_cases hc1 : (a0.Op == 0) = true
 ·
  replace h := aI hc1 h
  refine aQ (t := (a0.Op == 0)) rfl hc1 ?_
  refine ai ⟨tab [(6, .d (eL (some 8) (eA8 (D.int .u16)) ([] : List (A8 Int)))), (7, vb true)], ac [], 0⟩ ?_ ?_
  ·
   iterate 2 refine q1 _ ?_
   exact nR []
  have hh := aq h
  subst hh
  refine aV ?_
  show FQ _ _ _ _
  exact cX (.inr rfl) (aR (v := .d (eL (some 8) (eA8 (D.int .u16)) ([] : List (A8 Int)))) rfl (aR (v := vb true) rfl rfl)) (RV.d (RV.d trivial))
 ·
  replace h := aJ hc1 h
  refine aO (t := (a0.Op == 0)) rfl hc1 ?_
  refine ai ⟨tab [(1, aS a1), (3, ax a0), (5, .d (.cptr (some 8) (eA8 (D.int .u16) a2) 0)), (8, .d (eL (some 8) (eA8 (D.int .u16)) ([a2] : List (A8 Int)))), (24, vi a0.Op), (27, vb (a0.Op == 1))], ac [], 0⟩ ?_ ?_
  ·
   iterate 2 refine q1 _ ?_
   exact nR []
  by_cases hc2 : (a0.Op == 1) = true
  ·
   replace h := aI hc2 h
   refine aQ (t := (a0.Op == 1)) rfl hc2 ?_
   refine ai ⟨tab [(6, .d (eL (some 8) (eA8 (D.int .u16)) ([a2] : List (A8 Int)))), (7, vb true)], ac [], 0⟩ ?_ ?_
   ·
    iterate 3 refine q1 _ ?_
    exact nR []
   have hh := aq h
   subst hh
   refine aV ?_
   show FQ _ _ _ _
   exact cX (.inr rfl) (aR (v := .d (eL (some 8) (eA8 (D.int .u16)) ([a2] : List (A8 Int)))) rfl (aR (v := vb true) rfl rfl)) (RV.d (RV.d trivial))
  ·
   replace h := aJ hc2 h
   refine aO (t := (a0.Op == 1)) rfl hc2 ?_
   refine ai ⟨tab [(1, aS a1), (3, ax a0), (5, .d (.cptr (some 8) (eA8 (D.int .u16) a2) 0)), (8, .d (eL (some 8) (eA8 (D.int .u16)) ([a2] : List (A8 Int)))), (24, vi a0.Op), (30, vb (a0.Op == 2))], ac [], 0⟩ ?_ ?_
   ·
    iterate 2 refine q1 _ ?_
    exact nR []
   by_cases hc3 : (a0.Op == 2) = true
   ·
    replace h := aI hc3 h
    refine aQ (t := (a0.Op == 2)) rfl hc3 ?_
    refine aG ?_
    obtain ⟨x4, hx4, h⟩ := au h
    refine ai ⟨tab [(8, .d (eL (some 8) (eA8 (D.int .u16)) ([a2] : List (A8 Int)))), (38, vb (x4 == a0.N))], ac [], 0⟩ ?_ ?_
    ·
     iterate 2 refine q1 _ ?_
     refine step (v := .d (.cptr (some 8) (eA8 (D.int .u16) a2) (0 + a0.F.toNat * 1))) (gE (xs := a2.l) hx4 rfl rfl rfl) ?_
     refine step (v := vh x4) (gD rfl (gC (e := (D.int .u16)) (xs := a2.l) (pre := []) (post := []) hx4 rfl (by decide))) ?_
     iterate 3 refine q1 _ ?_
     exact nR []
    by_cases hc5 : (x4 == a0.N) = true
    ·
     replace h := aI hc5 h
     refine aQ (t := (x4 == a0.N)) rfl hc5 ?_
     refine ai ⟨tab [(6, .d (eL (some 8) (eA8 (D.int .u16)) ([a2] : List (A8 Int)))), (7, vb true)], ac [], 0⟩ ?_ ?_
     ·
      iterate 3 refine q1 _ ?_
      exact nR []
     have hh := aq h
     subst hh
     refine aV ?_
     show FQ _ _ _ _
     exact cX (.inr rfl) (aR (v := .d (eL (some 8) (eA8 (D.int .u16)) ([a2] : List (A8 Int)))) rfl (aR (v := vb true) rfl rfl)) (RV.d (RV.d trivial))
    ·
     replace h := aJ hc5 h
     refine aO (t := (x4 == a0.N)) rfl hc5 ?_
     refine bd ?_
     refine ai ⟨tab [(6, .d (eL (some 8) (eA8 (D.int .u16)) ([] : List (A8 Int)))), (7, vb true)], ac [], 0⟩ ?_ ?_
     ·
      iterate 2 refine q1 _ ?_
      exact nR []
     have hh := aq h
     subst hh
     refine aV ?_
     show FQ _ _ _ _
     exact cX (.inr rfl) (aR (v := .d (eL (some 8) (eA8 (D.int .u16)) ([] : List (A8 Int)))) rfl (aR (v := vb true) rfl rfl)) (RV.d (RV.d trivial))
   ·
    replace h := aJ hc3 h
    refine aO (t := (a0.Op == 2)) rfl hc3 ?_
    refine ai ⟨tab [(1, aS a1), (3, ax a0), (5, .d (.cptr (some 8) (eA8 (D.int .u16) a2) 0)), (8, .d (eL (some 8) (eA8 (D.int .u16)) ([a2] : List (A8 Int)))), (24, vi a0.Op), (40, vb (a0.Op == 3))], ac [], 0⟩ ?_ ?_
    ·
     iterate 2 refine q1 _ ?_
     exact nR []
    by_cases hc6 : (a0.Op == 3) = true
    ·
     replace h := aI hc6 h
     refine aQ (t := (a0.Op == 3)) rfl hc6 ?_
     refine aG ?_
     obtain ⟨y9, hv, h⟩ := au h
     refine ai ⟨tab [(8, .d (eL (some 8) (eA8 (D.int .u16)) ([a2] : List (A8 Int)))), (56, vb y9)], ac [], 0⟩ ?_ ?_
     ·
      iterate 3 refine q1 _ ?_
      refine step (v := vi (a1.length : Int)) (bz (xs := a1) (e := (D.int .u16)) rfl) ?_
      iterate 2 refine q1 _ ?_
      by_cases hg7 : decide (a0.F < (a1.length : Int)) = true
      ·
       replace hv := aI hg7 hv
       obtain ⟨x8, hx8, hv⟩ := au hv
       refine qG _ hg7 ?_
       refine q1 _ ?_
       refine qG _ hg7 ?_
       refine q1 _ ?_
       refine qG _ hg7 ?_
       refine q1 _ ?_
       refine qG _ hg7 ?_
       refine step (v := .d (.cptr none (.int .u16 x8) 0)) (cK (xs := a1) (e := (D.int .u16)) hx8 rfl rfl) ?_
       refine qG _ hg7 ?_
       refine q1 _ ?_
       refine qG _ hg7 ?_
       refine q1 _ ?_
       refine qG _ hg7 ?_
       refine q1 _ ?_
       refine qG _ hg7 ?_
       refine q1 _ ?_
       refine step (v := vb (x8 == a0.N)) (aU (b := decide (a0.F < (a1.length : Int))) rfl hg7 rfl) ?_
       have hh := aq hv
       subst hh
       exact nR []
      ·
       replace hv := aJ hg7 hv
       iterate 8 refine qX _ hg7 ?_
       refine step (v := vb false) (aY (b := decide (a0.F < (a1.length : Int))) rfl hg7 rfl) ?_
       have hh := aq hv
       subst hh
       exact nR []
     by_cases hc11 : y9 = true
     ·
      replace h := aI hc11 h
      refine aQ (t := y9) rfl hc11 ?_
      refine ai ⟨tab [(6, .d (eL (some 8) (eA8 (D.int .u16)) ([a2] : List (A8 Int)))), (7, vb true)], ac [], 0⟩ ?_ ?_
      ·
       iterate 3 refine q1 _ ?_
       exact nR []
      have hh := aq h
      subst hh
      refine aV ?_
      show FQ _ _ _ _
      exact cX (.inr rfl) (aR (v := .d (eL (some 8) (eA8 (D.int .u16)) ([a2] : List (A8 Int)))) rfl (aR (v := vb true) rfl rfl)) (RV.d (RV.d trivial))
     ·
      replace h := aJ hc11 h
      refine aO (t := y9) rfl hc11 ?_
      refine bd ?_
      refine ai ⟨tab [(6, .d (eL (some 8) (eA8 (D.int .u16)) ([] : List (A8 Int)))), (7, vb true)], ac [], 0⟩ ?_ ?_
      ·
       iterate 2 refine q1 _ ?_
       exact nR []
      have hh := aq h
      subst hh
      refine aV ?_
      show FQ _ _ _ _
      exact cX (.inr rfl) (aR (v := .d (eL (some 8) (eA8 (D.int .u16)) ([] : List (A8 Int)))) rfl (aR (v := vb true) rfl rfl)) (RV.d (RV.d trivial))
    ·
     replace h := aJ hc6 h
     refine aO (t := (a0.Op == 3)) rfl hc6 ?_
     refine ai ⟨tab [(1, aS a1), (3, ax a0), (5, .d (.cptr (some 8) (eA8 (D.int .u16) a2) 0)), (8, .d (eL (some 8) (eA8 (D.int .u16)) ([a2] : List (A8 Int)))), (24, vi a0.Op), (58, vb (a0.Op == 4))], ac [], 0⟩ ?_ ?_
     ·
      iterate 2 refine q1 _ ?_
      exact nR []
     by_cases hc12 : (a0.Op == 4) = true
     ·
      replace h := aI hc12 h
      refine aQ (t := (a0.Op == 4)) rfl hc12 ?_
      obtain ⟨x13, hx13, h⟩ := au h
      obtain ⟨r14, hr14, h⟩ := au h
      refine ai ⟨tab [(8, .d (eL (some 8) (eA8 (D.int .u16)) ([a2] : List (A8 Int)))), (9, .d (eL (some 8) (eA8 (D.int .u16)) r14.1)), (10, vb r14.2)], ac [], 0⟩ ?_ ?_
      ·
       iterate 2 refine q1 _ ?_
       refine step (v := ax x13) (dH (xs := a0.Kids) (e := aF) hx13 rfl rfl (cF _)) ?_
       iterate 3 refine q1 _ ?_
       refine bt (r := .tup [eL (some 8) (eA8 (D.int .u16)) r14.1, .bool r14.2]) (aH (aH (aH aT.nil'))) (hself _ _ _ _ hr14) ?_
       iterate 5 refine q1 _ ?_
       exact nR []
      obtain ⟨y16, hv, h⟩ := au h
      refine ez ⟨tab [(8, .d (eL (some 8) (eA8 (D.int .u16)) y16)), (10, vb r14.2)], ac [], 0⟩ ?_ ?_
      ·
       replace h := hv
       refine ai ⟨tab [(8, .d (eL (some 8) (eA8 (D.int .u16)) ([a2] : List (A8 Int)))), (10, vb r14.2), (72, vb (decide ((r14.1.length : Int) > 0)))], ac [], 0⟩ ?_ ?_
       ·
        refine q1 _ ?_
        refine step (v := vi (r14.1.length : Int)) (bz (xs := r14.1) (e := (eA8 (D.int .u16))) rfl) ?_
        refine q1 _ ?_
        exact nR []
       by_cases hc15 : decide ((r14.1.length : Int) > 0) = true
       ·
        replace h := aI hc15 h
        refine aQ (t := decide ((r14.1.length : Int) > 0)) rfl hc15 ?_
        have hh := aq h
        subst hh
        refine bH ⟨tab [(8, .d (eL (some 8) (eA8 (D.int .u16)) ([] : List (A8 Int)))), (10, vb r14.2)], ac [], 0⟩ ?_ ?_
        ·
         refine q1 _ ?_
         exact nR []
        exact And.intro rfl rfl
       ·
        replace h := aJ hc15 h
        refine aO (t := decide ((r14.1.length : Int) > 0)) rfl hc15 ?_
        have hh := aq h
        subst hh
        refine a8 (s0 := ⟨tab [(8, .d (eL (some 8) (eA8 (D.int .u16)) ([a2] : List (A8 Int)))), (10, vb r14.2)], ac [], 0⟩) (nr []) ?_
        refine bd ?_
        exact And.intro rfl rfl
      refine ai ⟨tab [(6, .d (eL (some 8) (eA8 (D.int .u16)) y16)), (7, vb r14.2)], ac [], 0⟩ ?_ ?_
      ·
       iterate 4 refine q1 _ ?_
       exact nR []
      have hh := aq h
      subst hh
      refine aV ?_
      show FQ _ _ _ _
      exact cX (.inr rfl) (aR (v := .d (eL (some 8) (eA8 (D.int .u16)) y16)) rfl (aR (v := vb r14.2) rfl rfl)) (RV.d (RV.d trivial))
     ·
      replace h := aJ hc12 h
      refine aO (t := (a0.Op == 4)) rfl hc12 ?_
      refine ai ⟨tab [(1, aS a1), (3, ax a0), (5, .d (.cptr (some 8) (eA8 (D.int .u16) a2) 0)), (8, .d (eL (some 8) (eA8 (D.int .u16)) ([a2] : List (A8 Int)))), (24, vi a0.Op), (75, vb (a0.Op == 5))], ac [], 0⟩ ?_ ?_
      ·
       iterate 2 refine q1 _ ?_
       exact nR []
      by_cases hc18 : (a0.Op == 5) = true
      ·
       replace h := aI hc18 h
       refine aQ (t := (a0.Op == 5)) rfl hc18 ?_
       obtain ⟨r19, hr19, h⟩ := au h
       refine ai ⟨tab [(6, .d (eL (some 8) (eA8 (D.int .u16)) ([r19] : List (A8 Int)))), (7, vb true)], ac [], 0⟩ ?_ ?_
       ·
        iterate 5 refine q1 _ ?_
        refine bt (r := eA8 (D.int .u16) r19) (aH (aH (aH aT.nil'))) (zf hr19) ?_
        iterate 3 refine q1 _ ?_
        exact nR []
       have hh := aq h
       subst hh
       refine aV ?_
       show FQ _ _ _ _
       exact cX (.inr rfl) (aR (v := .d (eL (some 8) (eA8 (D.int .u16)) ([r19] : List (A8 Int)))) rfl (aR (v := vb true) rfl rfl)) (RV.d (RV.d trivial))
      ·
       replace h := aJ hc18 h
       refine aO (t := (a0.Op == 5)) rfl hc18 ?_
       refine ai ⟨tab [(1, aS a1), (3, ax a0), (5, .d (.cptr (some 8) (eA8 (D.int .u16) a2) 0)), (8, .d (eL (some 8) (eA8 (D.int .u16)) ([a2] : List (A8 Int)))), (84, vb (a0.Op == 6))], ac [], 0⟩ ?_ ?_
       ·
        iterate 2 refine q1 _ ?_
        exact nR []
       by_cases hc20 : (a0.Op == 6) = true
       ·
        replace h := aI hc20 h
        refine aQ (t := (a0.Op == 6)) rfl hc20 ?_
        refine ai ⟨tab [(1, aS a1), (3, ax a0), (11, .d (eL (some 8) (eA8 (D.int .u16)) ([a2] : List (A8 Int))))], ac [], 0⟩ ?_ ?_
        ·
         iterate 2 refine q1 _ ?_
         exact nR []
        refine aG ?_
        refine ai ⟨tab [(1, aS a1), (3, ax a0), (11, .d (eL (some 8) (eA8 (D.int .u16)) ([a2] : List (A8 Int)))), (12, vi 0)], ac [], 0⟩ ?_ ?_
        ·
         refine q1 _ ?_
         exact nR []
        obtain ⟨q44, hl, h⟩ := au h
        refine bD ?_
        refine dG (cB (a0.Kids.length : Int)) (fun (i22 : Int) (qq : (List (A8 Int))) => ⟨tab [(1, aS a1), (3, ax a0), (11, .d (eL (some 8) (eA8 (D.int .u16)) qq)), (12, vi i22)], ac [], 0⟩) 1 (fun (qq : (List (A8 Int))) => ⟨tab [(11, .d (eL (some 8) (eA8 (D.int .u16)) qq))], ac [], 0⟩) bF cC (r := r) hl (by unfold bF; omega) ?_ ?_ ?_ ?_
        ·
         rintro i22 y21 xr27 hinv25 hgo24 h
         show aK _ _ _ _ _ ⟨tab [(1, aS a1), (3, ax a0), (11, .d (eL (some 8) (eA8 (D.int .u16)) y21)), (12, vi i22)], ac [], 0⟩
         have hc26 : decide (i22 < (a0.Kids.length : Int)) = true := decide_eq_true hgo24
         refine aG ?_
         refine ai ⟨tab [(1, aS a1), (3, ax a0), (11, .d (eL (some 8) (eA8 (D.int .u16)) y21)), (12, vi i22), (90, vi (a0.Kids.length : Int)), (91, vb (decide (i22 < (a0.Kids.length : Int))))], ac [], 0⟩ ?_ ?_
         ·
          iterate 3 refine q1 _ ?_
          refine step (v := vi (a0.Kids.length : Int)) (bz (xs := a0.Kids) (e := aF) rfl) ?_
          refine q1 _ ?_
          exact nR []
         refine cP 90 rfl fun hB23 => ?_
         refine aQ (t := decide (i22 < (a0.Kids.length : Int))) rfl hc26 ?_
         refine bd ?_
         refine aG ?_
         refine bD ?_
         refine ai ⟨tab [(1, aS a1), (3, ax a0), (11, .d (eL (some 8) (eA8 (D.int .u16)) y21)), (12, vi i22), (13, .d (eL (some 8) (eA8 (D.int .u16)) ([] : List (A8 Int))))], ac [], 0⟩ ?_ ?_
         ·
          refine q1 _ ?_
          exact nR []
         refine aG ?_
         refine ai ⟨tab [(1, aS a1), (3, ax a0), (11, .d (eL (some 8) (eA8 (D.int .u16)) y21)), (12, vi i22), (13, .d (eL (some 8) (eA8 (D.int .u16)) ([] : List (A8 Int)))), (14, vi 0)], ac [], 0⟩ ?_ ?_
         ·
          refine q1 _ ?_
          exact nR []
         obtain ⟨q42, hl, h⟩ := au h
         refine bD ?_
         refine dG (cB (y21.length : Int)) (fun (i29 : Int) (qq : (List (A8 Int))) => ⟨tab [(1, aS a1), (3, ax a0), (11, .d (eL (some 8) (eA8 (D.int .u16)) y21)), (12, vi i22), (13, .d (eL (some 8) (eA8 (D.int .u16)) qq)), (14, vi i29)], ac [], 0⟩) 3 (fun (qq : (List (A8 Int))) => ⟨tab [(1, aS a1), (3, ax a0), (12, vi i22), (13, .d (eL (some 8) (eA8 (D.int .u16)) qq))], ac [], 0⟩) bF cC (r := xr27) hl (by unfold bF; omega) ?_ ?_ ?_ ?_
         ·
          rintro i29 y28 xr34 hinv32 hgo31 h
          show aK _ _ _ _ _ ⟨tab [(1, aS a1), (3, ax a0), (11, .d (eL (some 8) (eA8 (D.int .u16)) y21)), (12, vi i22), (13, .d (eL (some 8) (eA8 (D.int .u16)) y28)), (14, vi i29)], ac [], 0⟩
          have hc33 : decide (i29 < (y21.length : Int)) = true := decide_eq_true hgo31
          refine aG ?_
          refine ai ⟨tab [(1, aS a1), (3, ax a0), (11, .d (eL (some 8) (eA8 (D.int .u16)) y21)), (12, vi i22), (13, .d (eL (some 8) (eA8 (D.int .u16)) y28)), (14, vi i29), (96, vi (y21.length : Int)), (97, vb (decide (i29 < (y21.length : Int))))], ac [], 0⟩ ?_ ?_
          ·
           iterate 2 refine q1 _ ?_
           refine step (v := vi (y21.length : Int)) (bz (xs := y21) (e := (eA8 (D.int .u16))) rfl) ?_
           refine q1 _ ?_
           exact nR []
          refine cP 96 rfl fun hB30 => ?_
          refine aQ (t := decide (i29 < (y21.length : Int))) rfl hc33 ?_
          refine bd ?_
          refine aG ?_
          refine bD ?_
          obtain ⟨x35, hx35, h⟩ := au h
          obtain ⟨x36, hx36, h⟩ := au h
          obtain ⟨r37, hr37, h⟩ := au h
          refine ai ⟨tab [(1, aS a1), (3, ax a0), (11, .d (eL (some 8) (eA8 (D.int .u16)) y21)), (12, vi i22), (13, .d (eL (some 8) (eA8 (D.int .u16)) y28)), (14, vi i29), (15, .d (eL (some 8) (eA8 (D.int .u16)) r37.1)), (16, vb r37.2)], ac [], 0⟩ ?_ ?_
          ·
           iterate 3 refine q1 _ ?_
           refine step (v := ax x35) (dH (xs := a0.Kids) (e := aF) hx35 rfl rfl (cF _)) ?_
           iterate 4 refine q1 _ ?_
           refine step (v := .d (.cptr (some 8) (eA8 (D.int .u16) x36) 0)) (cK (xs := y21) (e := (eA8 (D.int .u16))) hx36 rfl rfl) ?_
           refine q1 _ ?_
           refine bt (r := .tup [eL (some 8) (eA8 (D.int .u16)) r37.1, .bool r37.2]) (aH (aH (aH aT.nil'))) (hself _ _ _ _ hr37) ?_
           iterate 5 refine q1 _ ?_
           exact nR []
          refine aG ?_
          refine ai ⟨tab [(1, aS a1), (3, ax a0), (11, .d (eL (some 8) (eA8 (D.int .u16)) y21)), (12, vi i22), (13, .d (eL (some 8) (eA8 (D.int .u16)) y28)), (14, vi i29), (15, .d (eL (some 8) (eA8 (D.int .u16)) r37.1)), (115, vb (!r37.2))], ac [], 0⟩ ?_ ?_
          ·
           iterate 2 refine q1 _ ?_
           exact nR []
          by_cases hc38 : (!r37.2) = true
          ·
           replace h := aI hc38 h
           refine aQ (t := (!r37.2)) rfl hc38 ?_
           refine ai ⟨tab [(6, .d (eL (some 8) (eA8 (D.int .u16)) ([] : List (A8 Int)))), (7, vb false)], ac [], 0⟩ ?_ ?_
           ·
            iterate 2 refine q1 _ ?_
            exact nR []
           obtain ⟨r39, kr39, hr⟩ := cq (o := some (Br.ret (([] : List (A8 Int)), false))) (g := Br.ret) h
           subst hr
           have h := kr39
           obtain ⟨r40, kr40, hr⟩ := cq (o := some (([] : List (A8 Int)), false)) (g := Br.ret) h
           subst hr
           have h := kr40
           have hh := aq h
           subst hh
           refine aV ?_
           refine And.intro (fun hn => nomatch hn) ?_
           intro hq
           have hq := hq.symm
           subst hq
           refine And.intro (fun hn => nomatch hn) ?_
           intro hq
           have hq := hq.symm
           subst hq
           show FQ _ _ _ _
           exact cX (.inr rfl) (aR (v := .d (eL (some 8) (eA8 (D.int .u16)) ([] : List (A8 Int)))) rfl (aR (v := vb false) rfl rfl)) (RV.d (RV.d trivial))
          ·
           replace h := aJ hc38 h
           refine aO (t := (!r37.2)) rfl hc38 ?_
           refine bd ?_
           obtain ⟨r39, hr39, h⟩ := au h
           refine bH ⟨tab [(1, aS a1), (3, ax a0), (11, .d (eL (some 8) (eA8 (D.int .u16)) y21)), (12, vi i22), (13, .d (eL (some 8) (eA8 (D.int .u16)) r39)), (14, vi i29)], ac [], 0⟩ ?_ ?_
           ·
            iterate 2 refine q1 _ ?_
            refine bt (r := eL (some 8) (eA8 (D.int .u16)) r39) (aH (aH aT.nil')) (rO hr39) ?_
            refine q1 _ ?_
            exact nR []
           have hh := aq h
           subst hh
           refine bH ⟨tab [(1, aS a1), (3, ax a0), (11, .d (eL (some 8) (eA8 (D.int .u16)) y21)), (12, vi i22), (13, .d (eL (some 8) (eA8 (D.int .u16)) r39)), (14, vi (i29 + 1))], ac [], 0⟩ ?_ ?_
           ·
            refine q1 _ ?_
            refine step (v := vi (i29 + 1)) (cD (cE hinv32 hgo31 hB30) rfl rfl) ?_
            refine q1 _ ?_
            exact nR []
           exact And.intro rfl rfl
         ·
          rintro i29 y28 hinv32 hgo31
          show aK _ _ _ _ _ ⟨tab [(1, aS a1), (3, ax a0), (11, .d (eL (some 8) (eA8 (D.int .u16)) y21)), (12, vi i22), (13, .d (eL (some 8) (eA8 (D.int .u16)) y28)), (14, vi i29)], ac [], 0⟩
          have hc33 : ¬ (decide (i29 < (y21.length : Int)) = true) := fun hq => hgo31 (of_decide_eq_true hq)
          refine aG ?_
          refine ai ⟨tab [(1, aS a1), (3, ax a0), (11, .d (eL (some 8) (eA8 (D.int .u16)) y21)), (12, vi i22), (13, .d (eL (some 8) (eA8 (D.int .u16)) y28)), (14, vi i29), (97, vb (decide (i29 < (y21.length : Int))))], ac [], 0⟩ ?_ ?_
          ·
           iterate 2 refine q1 _ ?_
           refine step (v := vi (y21.length : Int)) (bz (xs := y21) (e := (eA8 (D.int .u16))) rfl) ?_
           refine q1 _ ?_
           exact nR []
          refine aO (t := decide (i29 < (y21.length : Int))) rfl hc33 ?_
          refine a8 (s0 := ⟨tab [(1, aS a1), (3, ax a0), (12, vi i22), (13, .d (eL (some 8) (eA8 (D.int .u16)) y28))], ac [], 0⟩) (nr []) ?_
          refine cz ?_
          exact And.intro rfl rfl
         ·
          intro r' hq
          subst hq
          exact aq h
         rintro z40 rfl
         refine aG ?_
         refine ai ⟨tab [(1, aS a1), (3, ax a0), (12, vi i22), (13, .d (eL (some 8) (eA8 (D.int .u16)) z40)), (121, vb (decide ((z40.length : Int) > 64)))], ac [], 0⟩ ?_ ?_
         ·
          refine q1 _ ?_
          refine step (v := vi (z40.length : Int)) (bz (xs := z40) (e := (eA8 (D.int .u16))) rfl) ?_
          refine q1 _ ?_
          exact nR []
         by_cases hc41 : decide ((z40.length : Int) > 64) = true
         ·
          replace h := aI hc41 h
          refine aQ (t := decide ((z40.length : Int) > 64)) rfl hc41 ?_
          refine ai ⟨tab [(6, .d (eL (some 8) (eA8 (D.int .u16)) ([] : List (A8 Int)))), (7, vb false)], ac [], 0⟩ ?_ ?_
          ·
           iterate 2 refine q1 _ ?_
           exact nR []
          obtain ⟨r42, kr42, hr⟩ := cq (o := some (([] : List (A8 Int)), false)) (g := Br.ret) h
          subst hr
          have h := kr42
          have hh := aq h
          subst hh
          refine aV ?_
          refine And.intro (fun hn => nomatch hn) ?_
          intro hq
          have hq := hq.symm
          subst hq
          show FQ _ _ _ _
          exact cX (.inr rfl) (aR (v := .d (eL (some 8) (eA8 (D.int .u16)) ([] : List (A8 Int)))) rfl (aR (v := vb false) rfl rfl)) (RV.d (RV.d trivial))
         ·
          replace h := aJ hc41 h
          refine aO (t := decide ((z40.length : Int) > 64)) rfl hc41 ?_
          refine bd ?_
          refine bH ⟨tab [(1, aS a1), (3, ax a0), (11, .d (eL (some 8) (eA8 (D.int .u16)) z40)), (12, vi i22)], ac [], 0⟩ ?_ ?_
          ·
           iterate 2 refine q1 _ ?_
           exact nR []
          have hh := aq h
          subst hh
          refine bH ⟨tab [(1, aS a1), (3, ax a0), (11, .d (eL (some 8) (eA8 (D.int .u16)) z40)), (12, vi (i22 + 1))], ac [], 0⟩ ?_ ?_
          ·
           refine q1 _ ?_
           refine step (v := vi (i22 + 1)) (cD (cE hinv25 hgo24 hB23) rfl rfl) ?_
           refine q1 _ ?_
           exact nR []
          exact And.intro rfl rfl
        ·
         rintro i22 y21 hinv25 hgo24
         show aK _ _ _ _ _ ⟨tab [(1, aS a1), (3, ax a0), (11, .d (eL (some 8) (eA8 (D.int .u16)) y21)), (12, vi i22)], ac [], 0⟩
         have hc26 : ¬ (decide (i22 < (a0.Kids.length : Int)) = true) := fun hq => hgo24 (of_decide_eq_true hq)
         refine aG ?_
         refine ai ⟨tab [(1, aS a1), (3, ax a0), (11, .d (eL (some 8) (eA8 (D.int .u16)) y21)), (12, vi i22), (91, vb (decide (i22 < (a0.Kids.length : Int))))], ac [], 0⟩ ?_ ?_
         ·
          iterate 3 refine q1 _ ?_
          refine step (v := vi (a0.Kids.length : Int)) (bz (xs := a0.Kids) (e := aF) rfl) ?_
          refine q1 _ ?_
          exact nR []
         refine aO (t := decide (i22 < (a0.Kids.length : Int))) rfl hc26 ?_
         refine a8 (s0 := ⟨tab [(11, .d (eL (some 8) (eA8 (D.int .u16)) y21))], ac [], 0⟩) (nr []) ?_
         refine cz ?_
         exact And.intro rfl rfl
        ·
         intro r' hq
         subst hq
         exact aq h
        rintro z43 rfl
        refine ai ⟨tab [(6, .d (eL (some 8) (eA8 (D.int .u16)) z43)), (7, vb true)], ac [], 0⟩ ?_ ?_
        ·
         iterate 3 refine q1 _ ?_
         exact nR []
        have hh := aq h
        subst hh
        refine aV ?_
        show FQ _ _ _ _
        exact cX (.inr rfl) (aR (v := .d (eL (some 8) (eA8 (D.int .u16)) z43)) rfl (aR (v := vb true) rfl rfl)) (RV.d (RV.d trivial))
       ·
        replace h := aJ hc20 h
        refine aO (t := (a0.Op == 6)) rfl hc20 ?_
        refine bd ?_
        refine ai ⟨tab [(1, aS a1), (3, ax a0), (5, .d (.cptr (some 8) (eA8 (D.int .u16) a2) 0)), (17, .d (eL (some 8) (eA8 (D.int .u16)) ([] : List (A8 Int))))], ac [], 0⟩ ?_ ?_
        ·
         refine q1 _ ?_
         exact nR []
        refine aG ?_
        refine ai ⟨tab [(1, aS a1), (3, ax a0), (5, .d (.cptr (some 8) (eA8 (D.int .u16) a2) 0)), (17, .d (eL (some 8) (eA8 (D.int .u16)) ([] : List (A8 Int)))), (18, vi 0)], ac [], 0⟩ ?_ ?_
        ·
         refine q1 _ ?_
         exact nR []
        obtain ⟨q58, hl, h⟩ := au h
        refine bD ?_
        refine dG (cB (a0.Kids.length : Int)) (fun (i46 : Int) (qq : (List (A8 Int))) => ⟨tab [(1, aS a1), (3, ax a0), (5, .d (.cptr (some 8) (eA8 (D.int .u16) a2) 0)), (17, .d (eL (some 8) (eA8 (D.int .u16)) qq)), (18, vi i46)], ac [], 0⟩) 5 (fun (qq : (List (A8 Int))) => ⟨tab [(17, .d (eL (some 8) (eA8 (D.int .u16)) qq))], ac [], 0⟩) bF cC (r := r) hl (by unfold bF; omega) ?_ ?_ ?_ ?_
        ·
         rintro i46 y45 xr51 hinv49 hgo48 h
         show aK _ _ _ _ _ ⟨tab [(1, aS a1), (3, ax a0), (5, .d (.cptr (some 8) (eA8 (D.int .u16) a2) 0)), (17, .d (eL (some 8) (eA8 (D.int .u16)) y45)), (18, vi i46)], ac [], 0⟩
         have hc50 : decide (i46 < (a0.Kids.length : Int)) = true := decide_eq_true hgo48
         refine aG ?_
         refine ai ⟨tab [(1, aS a1), (3, ax a0), (5, .d (.cptr (some 8) (eA8 (D.int .u16) a2) 0)), (17, .d (eL (some 8) (eA8 (D.int .u16)) y45)), (18, vi i46), (127, vi (a0.Kids.length : Int)), (128, vb (decide (i46 < (a0.Kids.length : Int))))], ac [], 0⟩ ?_ ?_
         ·
          iterate 3 refine q1 _ ?_
          refine step (v := vi (a0.Kids.length : Int)) (bz (xs := a0.Kids) (e := aF) rfl) ?_
          refine q1 _ ?_
          exact nR []
         refine cP 127 rfl fun hB47 => ?_
         refine aQ (t := decide (i46 < (a0.Kids.length : Int))) rfl hc50 ?_
         refine bd ?_
         refine aG ?_
         refine bD ?_
         obtain ⟨x52, hx52, h⟩ := au h
         obtain ⟨r53, hr53, h⟩ := au h
         refine ai ⟨tab [(1, aS a1), (3, ax a0), (5, .d (.cptr (some 8) (eA8 (D.int .u16) a2) 0)), (17, .d (eL (some 8) (eA8 (D.int .u16)) y45)), (18, vi i46), (19, .d (eL (some 8) (eA8 (D.int .u16)) r53.1)), (20, vb r53.2)], ac [], 0⟩ ?_ ?_
         ·
          iterate 3 refine q1 _ ?_
          refine step (v := ax x52) (dH (xs := a0.Kids) (e := aF) hx52 rfl rfl (cF _)) ?_
          iterate 3 refine q1 _ ?_
          refine bt (r := .tup [eL (some 8) (eA8 (D.int .u16)) r53.1, .bool r53.2]) (aH (aH (aH aT.nil'))) (hself _ _ _ _ hr53) ?_
          iterate 5 refine q1 _ ?_
          exact nR []
         refine aG ?_
         refine ai ⟨tab [(1, aS a1), (3, ax a0), (5, .d (.cptr (some 8) (eA8 (D.int .u16) a2) 0)), (17, .d (eL (some 8) (eA8 (D.int .u16)) y45)), (18, vi i46), (19, .d (eL (some 8) (eA8 (D.int .u16)) r53.1)), (143, vb (!r53.2))], ac [], 0⟩ ?_ ?_
         ·
          iterate 2 refine q1 _ ?_
          exact nR []
         by_cases hc54 : (!r53.2) = true
         ·
          replace h := aI hc54 h
          refine aQ (t := (!r53.2)) rfl hc54 ?_
          refine ai ⟨tab [(6, .d (eL (some 8) (eA8 (D.int .u16)) ([] : List (A8 Int)))), (7, vb false)], ac [], 0⟩ ?_ ?_
          ·
           iterate 2 refine q1 _ ?_
           exact nR []
          obtain ⟨r55, kr55, hr⟩ := cq (o := some (([] : List (A8 Int)), false)) (g := Br.ret) h
          subst hr
          have h := kr55
          have hh := aq h
          subst hh
          refine aV ?_
          refine And.intro (fun hn => nomatch hn) ?_
          intro hq
          have hq := hq.symm
          subst hq
          show FQ _ _ _ _
          exact cX (.inr rfl) (aR (v := .d (eL (some 8) (eA8 (D.int .u16)) ([] : List (A8 Int)))) rfl (aR (v := vb false) rfl rfl)) (RV.d (RV.d trivial))
         ·
          replace h := aJ hc54 h
          refine aO (t := (!r53.2)) rfl hc54 ?_
          refine bd ?_
          obtain ⟨r55, hr55, h⟩ := au h
          refine ai ⟨tab [(1, aS a1), (3, ax a0), (5, .d (.cptr (some 8) (eA8 (D.int .u16) a2) 0)), (17, .d (eL (some 8) (eA8 (D.int .u16)) r55)), (18, vi i46)], ac [], 0⟩ ?_ ?_
          ·
           iterate 2 refine q1 _ ?_
           refine bt (r := eL (some 8) (eA8 (D.int .u16)) r55) (aH (aH aT.nil')) (rO hr55) ?_
           refine q1 _ ?_
           exact nR []
          refine ai ⟨tab [(1, aS a1), (3, ax a0), (5, .d (.cptr (some 8) (eA8 (D.int .u16) a2) 0)), (17, .d (eL (some 8) (eA8 (D.int .u16)) r55)), (18, vi i46), (149, vb (decide ((r55.length : Int) > 64)))], ac [], 0⟩ ?_ ?_
          ·
           refine q1 _ ?_
           refine step (v := vi (r55.length : Int)) (bz (xs := r55) (e := (eA8 (D.int .u16))) rfl) ?_
           refine q1 _ ?_
           exact nR []
          by_cases hc56 : decide ((r55.length : Int) > 64) = true
          ·
           replace h := aI hc56 h
           refine aQ (t := decide ((r55.length : Int) > 64)) rfl hc56 ?_
           refine ai ⟨tab [(6, .d (eL (some 8) (eA8 (D.int .u16)) ([] : List (A8 Int)))), (7, vb false)], ac [], 0⟩ ?_ ?_
           ·
            iterate 2 refine q1 _ ?_
            exact nR []
           obtain ⟨r57, kr57, hr⟩ := cq (o := some (([] : List (A8 Int)), false)) (g := Br.ret) h
           subst hr
           have h := kr57
           have hh := aq h
           subst hh
           refine aV ?_
           refine And.intro (fun hn => nomatch hn) ?_
           intro hq
           have hq := hq.symm
           subst hq
           show FQ _ _ _ _
           exact cX (.inr rfl) (aR (v := .d (eL (some 8) (eA8 (D.int .u16)) ([] : List (A8 Int)))) rfl (aR (v := vb false) rfl rfl)) (RV.d (RV.d trivial))
          ·
           replace h := aJ hc56 h
           refine aO (t := decide ((r55.length : Int) > 64)) rfl hc56 ?_
           refine bd ?_
           have hh := aq h
           subst hh
           refine bH ⟨tab [(1, aS a1), (3, ax a0), (5, .d (.cptr (some 8) (eA8 (D.int .u16) a2) 0)), (17, .d (eL (some 8) (eA8 (D.int .u16)) r55)), (18, vi (i46 + 1))], ac [], 0⟩ ?_ ?_
           ·
            refine q1 _ ?_
            refine step (v := vi (i46 + 1)) (cD (cE hinv49 hgo48 hB47) rfl rfl) ?_
            refine q1 _ ?_
            exact nR []
           exact And.intro rfl rfl
        ·
         rintro i46 y45 hinv49 hgo48
         show aK _ _ _ _ _ ⟨tab [(1, aS a1), (3, ax a0), (5, .d (.cptr (some 8) (eA8 (D.int .u16) a2) 0)), (17, .d (eL (some 8) (eA8 (D.int .u16)) y45)), (18, vi i46)], ac [], 0⟩
         have hc50 : ¬ (decide (i46 < (a0.Kids.length : Int)) = true) := fun hq => hgo48 (of_decide_eq_true hq)
         refine aG ?_
         refine ai ⟨tab [(1, aS a1), (3, ax a0), (5, .d (.cptr (some 8) (eA8 (D.int .u16) a2) 0)), (17, .d (eL (some 8) (eA8 (D.int .u16)) y45)), (18, vi i46), (128, vb (decide (i46 < (a0.Kids.length : Int))))], ac [], 0⟩ ?_ ?_
         ·
          iterate 3 refine q1 _ ?_
          refine step (v := vi (a0.Kids.length : Int)) (bz (xs := a0.Kids) (e := aF) rfl) ?_
          refine q1 _ ?_
          exact nR []
         refine aO (t := decide (i46 < (a0.Kids.length : Int))) rfl hc50 ?_
         refine a8 (s0 := ⟨tab [(17, .d (eL (some 8) (eA8 (D.int .u16)) y45))], ac [], 0⟩) (nr []) ?_
         refine cz ?_
         exact And.intro rfl rfl
        ·
         intro r' hq
         subst hq
         exact aq h
        rintro z57 rfl
        refine ai ⟨tab [(6, .d (eL (some 8) (eA8 (D.int .u16)) z57)), (7, vb true)], ac [], 0⟩ ?_ ?_
        ·
         iterate 3 refine q1 _ ?_
         exact nR []
        have hh := aq h
        subst hh
        refine aV ?_
        show FQ _ _ _ _
        exact cX (.inr rfl) (aR (v := .d (eL (some 8) (eA8 (D.int .u16)) z57)) rfl (aR (v := vb true) rfl rfl)) (RV.d (RV.d trivial))
theorem rP : ∀ (k : Nat) (a0 : aj) (a1 : (List Int)) (a2 : (A8 Int)) (r : ((List (A8 Int)) × Bool)), ft k a0 a1 a2 = some r → PCall Try.prog 51 [br a0, eL none (D.int .u16) a1, eA8 (D.int .u16) a2] (.tup [eL (some 8) (eA8 (D.int .u16)) r.1, .bool r.2])
 | 0, _, _, _, _, h => by cases h
 | k + 1, _, _, _, _, h => zj (rP k) h
theorem zk {a0 : aj} {a1 : (List Int)} {a2 : (A8 Int)} {r : ((List (A8 Int)) × Bool)} (h : nf a0 a1 a2 = some r) : PCall Try.prog 51 [br a0, eL none (D.int .u16) a1, eA8 (D.int .u16) a2] (.tup [eL (some 8) (eA8 (D.int .u16)) r.1, .bool r.2]) := rP cA _ _ _ _ h
theorem zl {a0 : aj} {a1 : (List Int)} {a2 : (A8 Int)} {r : ((List (A8 Int)) × Int)} (h : lm a0 a1 a2 = some r) : PCall Try.prog 15 [br a0, eL none (D.int .u16) a1, eA8 (D.int .u16) a2] (.tup [eL (some 8) (eA8 (D.int .u16)) r.1, .int .i64 r.2]) := by
 refine PCall.introN yf (show 3 ≤ 23 by decide) ?_
 refine a8 (s0 := ⟨tab [(0, vs1 a0), (1, aS a1), (2, .d (eA8 (D.int .u16) a2))], ac [], 0⟩) (nr []) ?_
 refine ai ⟨tab [(1, aS a1), (3, ax a0), (5, .d (.cptr (some 8) (eA8 (D.int .u16) a2) 0))], ac [], 0⟩ ?_ ?_
 ·
  iterate 4 refine q1 _ ?_
  exact nR []
 refine aG ?_
 obtain ⟨r1, hr1, h⟩ := au h
 refine ai ⟨tab [(1, aS a1), (3, ax a0), (5, .d (.cptr (some 8) (eA8 (D.int .u16) a2) 0)), (12, vb (!r1))], ac [], 0⟩ ?_ ?_
 ·
  refine q1 _ ?_
  refine bt (r := .bool r1) (aH aT.nil') (ze hr1) ?_
  refine q1 _ ?_
  exact nR []
 by_cases hc2 : (!r1) = true
 ·
  replace h := aI hc2 h
  refine aQ (t := (!r1)) rfl hc2 ?_
  refine ai ⟨tab [(6, .d (eL (some 8) (eA8 (D.int .u16)) ([] : List (A8 Int)))), (7, vi 11)], ac [], 0⟩ ?_ ?_
  ·
   iterate 2 refine q1 _ ?_
   exact nR []
  have hh := aq h
  subst hh
  refine aV ?_
  show FQ _ _ _ _
  exact cX (.inr rfl) (aR (v := .d (eL (some 8) (eA8 (D.int .u16)) ([] : List (A8 Int)))) rfl (aR (v := vi 11) rfl rfl)) (RV.d (RV.d trivial))
 ·
  replace h := aJ hc2 h
  refine aO (t := (!r1)) rfl hc2 ?_
  refine bd ?_
  obtain ⟨r3, hr3, h⟩ := au h
  refine ai ⟨tab [(8, .d (eL (some 8) (eA8 (D.int .u16)) r3.1)), (9, vb r3.2)], ac [], 0⟩ ?_ ?_
  ·
   iterate 3 refine q1 _ ?_
   refine bt (r := .tup [eL (some 8) (eA8 (D.int .u16)) r3.1, .bool r3.2]) (aH (aH (aH aT.nil'))) (zk hr3) ?_
   iterate 5 refine q1 _ ?_
   exact nR []
  refine aG ?_
  refine ai ⟨tab [(8, .d (eL (some 8) (eA8 (D.int .u16)) r3.1)), (21, vb (!r3.2))], ac [], 0⟩ ?_ ?_
  ·
   iterate 2 refine q1 _ ?_
   exact nR []
  by_cases hc4 : (!r3.2) = true
  ·
   replace h := aI hc4 h
   refine aQ (t := (!r3.2)) rfl hc4 ?_
   refine ai ⟨tab [(6, .d (eL (some 8) (eA8 (D.int .u16)) ([] : List (A8 Int)))), (7, vi 24)], ac [], 0⟩ ?_ ?_
   ·
    iterate 2 refine q1 _ ?_
    exact nR []
   have hh := aq h
   subst hh
   refine aV ?_
   show FQ _ _ _ _
   exact cX (.inr rfl) (aR (v := .d (eL (some 8) (eA8 (D.int .u16)) ([] : List (A8 Int)))) rfl (aR (v := vi 24) rfl rfl)) (RV.d (RV.d trivial))
  ·
   replace h := aJ hc4 h
   refine aO (t := (!r3.2)) rfl hc4 ?_
   refine bd ?_
   refine ai ⟨tab [(6, .d (eL (some 8) (eA8 (D.int .u16)) r3.1)), (7, vi 0)], ac [], 0⟩ ?_ ?_
   ·
    iterate 3 refine q1 _ ?_
    exact nR []
   have hh := aq h
   subst hh
   refine aV ?_
   show FQ _ _ _ _
   exact cX (.inr rfl) (aR (v := .d (eL (some 8) (eA8 (D.int .u16)) r3.1)) rfl (aR (v := vi 0) rfl rfl)) (RV.d (RV.d trivial))
theorem zm {a0 : (List (A8 Int))} {a1 : (List (A8 Int))} {r : Bool} (h : lr a0 a1 = some r) : PCall Try.prog 16 [eL (some 8) (eA8 (D.int .u16)) a0, eL (some 8) (eA8 (D.int .u16)) a1] (.bool r) := by
 refine PCall.introN yi (show 2 ≤ 26 by decide) ?_
 refine a8 (s0 := ⟨tab [(0, .d (eL (some 8) (eA8 (D.int .u16)) a0)), (1, .d (eL (some 8) (eA8 (D.int .u16)) a1))], ac [], 0⟩) (nr []) ?_
 refine ai ⟨tab [(0, .d (eL (some 8) (eA8 (D.int .u16)) a0)), (1, .d (eL (some 8) (eA8 (D.int .u16)) a1))], ac [], 0⟩ ?_ ?_
 ·
  refine q1 _ ?_
  exact nR []
 refine aG ?_
 refine ai ⟨tab [(0, .d (eL (some 8) (eA8 (D.int .u16)) a0)), (1, .d (eL (some 8) (eA8 (D.int .u16)) a1)), (10, vb ((a0.length : Int) != (a1.length : Int)))], ac [], 0⟩ ?_ ?_
 ·
  refine q1 _ ?_
  refine step (v := vi (a0.length : Int)) (bz (xs := a0) (e := (eA8 (D.int .u16))) rfl) ?_
  refine q1 _ ?_
  refine step (v := vi (a1.length : Int)) (bz (xs := a1) (e := (eA8 (D.int .u16))) rfl) ?_
  refine q1 _ ?_
  exact nR []
 by_cases hc1 : ((a0.length : Int) != (a1.length : Int)) = true
 ·
  replace h := aI hc1 h
  refine aQ (t := ((a0.length : Int) != (a1.length : Int))) rfl hc1 ?_
  refine ai ⟨tab [(4, vb false)], ac [], 0⟩ ?_ ?_
  ·
   refine q1 _ ?_
   exact nR []
  have hh := aq h
  subst hh
  refine aV ?_
  show FQ _ _ _ _
  exact bo (.inr rfl) (aR (v := vb false) rfl rfl) (RV.d trivial)
 ·
  replace h := aJ hc1 h
  refine aO (t := ((a0.length : Int) != (a1.length : Int))) rfl hc1 ?_
  refine bd ?_
  refine aG ?_
  refine ai ⟨tab [(0, .d (eL (some 8) (eA8 (D.int .u16)) a0)), (1, .d (eL (some 8) (eA8 (D.int .u16)) a1)), (5, vi 0)], ac [], 0⟩ ?_ ?_
  ·
   refine q1 _ ?_
   exact nR []
  obtain ⟨q11, hl, h⟩ := au h
  refine bD ?_
  refine dG (cB (a0.length : Int)) (fun (i2 : Int) (qq : Unit) => ⟨tab [(0, .d (eL (some 8) (eA8 (D.int .u16)) a0)), (1, .d (eL (some 8) (eA8 (D.int .u16)) a1)), (5, vi i2)], ac [], 0⟩) 0 (fun (qq : Unit) => ⟨tab [], ac [], 0⟩) bF cC (r := r) hl (by unfold bF; omega) ?_ ?_ ?_ ?_
  ·
   rintro i2 ⟨⟩ xr7 hinv5 hgo4 h
   show aK _ _ _ _ _ ⟨tab [(0, .d (eL (some 8) (eA8 (D.int .u16)) a0)), (1, .d (eL (some 8) (eA8 (D.int .u16)) a1)), (5, vi i2)], ac [], 0⟩
   have hc6 : decide (i2 < (a0.length : Int)) = true := decide_eq_true hgo4
   refine aG ?_
   refine ai ⟨tab [(0, .d (eL (some 8) (eA8 (D.int .u16)) a0)), (1, .d (eL (some 8) (eA8 (D.int .u16)) a1)), (5, vi i2), (13, vi (a0.length : Int)), (14, vb (decide (i2 < (a0.length : Int))))], ac [], 0⟩ ?_ ?_
   ·
    iterate 2 refine q1 _ ?_
    refine step (v := vi (a0.length : Int)) (bz (xs := a0) (e := (eA8 (D.int .u16))) rfl) ?_
    refine q1 _ ?_
    exact nR []
   refine cP 13 rfl fun hB3 => ?_
   refine aQ (t := decide (i2 < (a0.length : Int))) rfl hc6 ?_
   refine bd ?_
   refine aG ?_
   refine bD ?_
   obtain ⟨x8, hx8, h⟩ := au h
   obtain ⟨x9, hx9, h⟩ := au h
   refine ai ⟨tab [(0, .d (eL (some 8) (eA8 (D.int .u16)) a0)), (1, .d (eL (some 8) (eA8 (D.int .u16)) a1)), (5, vi i2), (25, vb (!(x8 == x9)))], ac [], 0⟩ ?_ ?_
   ·
    iterate 2 refine q1 _ ?_
    refine step (v := .d (.cptr (some 8) (eA8 (D.int .u16) x8) 0)) (cK (xs := a0) (e := (eA8 (D.int .u16))) hx8 rfl rfl) ?_
    iterate 3 refine q1 _ ?_
    refine step (v := .d (.cptr (some 8) (eA8 (D.int .u16) x9) 0)) (cK (xs := a1) (e := (eA8 (D.int .u16))) hx9 rfl rfl) ?_
    refine q1 _ ?_
    refine step (v := vb (!(x8 == x9))) (kB (neg := true) rfl rfl (lI x8 x9)) ?_
    exact nR []
   by_cases hc10 : (!(x8 == x9)) = true
   ·
    replace h := aI hc10 h
    refine aQ (t := (!(x8 == x9))) rfl hc10 ?_
    refine ai ⟨tab [(4, vb false)], ac [], 0⟩ ?_ ?_
    ·
     refine q1 _ ?_
     exact nR []
    obtain ⟨r11, kr11, hr⟩ := cq (o := some false) (g := Br.ret) h
    subst hr
    have h := kr11
    have hh := aq h
    subst hh
    refine aV ?_
    refine And.intro (fun hn => nomatch hn) ?_
    intro hq
    have hq := hq.symm
    subst hq
    show FQ _ _ _ _
    exact bo (.inr rfl) (aR (v := vb false) rfl rfl) (RV.d trivial)
   ·
    replace h := aJ hc10 h
    refine aO (t := (!(x8 == x9))) rfl hc10 ?_
    refine bd ?_
    have hh := aq h
    subst hh
    refine bH ⟨tab [(0, .d (eL (some 8) (eA8 (D.int .u16)) a0)), (1, .d (eL (some 8) (eA8 (D.int .u16)) a1)), (5, vi (i2 + 1))], ac [], 0⟩ ?_ ?_
    ·
     refine q1 _ ?_
     refine step (v := vi (i2 + 1)) (cD (cE hinv5 hgo4 hB3) rfl rfl) ?_
     refine q1 _ ?_
     exact nR []
    exact And.intro rfl rfl
  ·
   rintro i2 ⟨⟩ hinv5 hgo4
   show aK _ _ _ _ _ ⟨tab [(0, .d (eL (some 8) (eA8 (D.int .u16)) a0)), (1, .d (eL (some 8) (eA8 (D.int .u16)) a1)), (5, vi i2)], ac [], 0⟩
   have hc6 : ¬ (decide (i2 < (a0.length : Int)) = true) := fun hq => hgo4 (of_decide_eq_true hq)
   refine aG ?_
   refine ai ⟨tab [(0, .d (eL (some 8) (eA8 (D.int .u16)) a0)), (1, .d (eL (some 8) (eA8 (D.int .u16)) a1)), (5, vi i2), (14, vb (decide (i2 < (a0.length : Int))))], ac [], 0⟩ ?_ ?_
   ·
    iterate 2 refine q1 _ ?_
    refine step (v := vi (a0.length : Int)) (bz (xs := a0) (e := (eA8 (D.int .u16))) rfl) ?_
    refine q1 _ ?_
    exact nR []
   refine aO (t := decide (i2 < (a0.length : Int))) rfl hc6 ?_
   refine a8 (s0 := ⟨tab [], ac [], 0⟩) (nr []) ?_
   refine cz ?_
   exact And.intro rfl rfl
  ·
   intro r' hq
   subst hq
   exact aq h
  rintro ⟨⟩ rfl
  refine ai ⟨tab [(4, vb true)], ac [], 0⟩ ?_ ?_
  ·
   refine q1 _ ?_
   exact nR []
  have hh := aq h
  subst hh
  refine aV ?_
  show FQ _ _ _ _
  exact bo (.inr rfl) (aR (v := vb true) rfl rfl) (RV.d trivial)
theorem c_law07_PolicyMakes {a0 : (List law05_Step)} {a1 : (List Int)} {a2 : (A8 Int)} {r : Bool} (h : law07_PolicyMakes a0 a1 a2 = some r) : PCall Try.prog 3 [eL (some 4) elaw05_Step a0, eL none (D.int .u16) a1, eA8 (D.int .u16) a2] (.bool r) := by
 refine PCall.introN yj (show 3 ≤ 63 by decide) ?_
 refine a8 (s0 := ⟨tab [(0, ck a0), (1, aS a1), (2, .d (eA8 (D.int .u16) a2))], ac [], 0⟩) (nr []) ?_
 refine ai ⟨tab [(0, ck a0), (1, aS a1), (5, .d (.cptr (some 8) (eA8 (D.int .u16) a2) 0))], ac [], 0⟩ ?_ ?_
 ·
  iterate 2 refine q1 _ ?_
  exact nR []
 refine aG ?_
 obtain ⟨r1, hr1, h⟩ := au h
 refine ai ⟨tab [(0, ck a0), (1, aS a1), (5, .d (.cptr (some 8) (eA8 (D.int .u16) a2) 0)), (14, vb (!r1))], ac [], 0⟩ ?_ ?_
 ·
  refine bt (r := .bool r1) aT.nil' (yS hr1) ?_
  refine q1 _ ?_
  exact nR []
 by_cases hc2 : (!r1) = true
 ·
  replace h := aI hc2 h
  refine aQ (t := (!r1)) rfl hc2 ?_
  refine ai ⟨tab [(6, vb false)], ac [], 0⟩ ?_ ?_
  ·
   refine q1 _ ?_
   exact nR []
  have hh := aq h
  subst hh
  refine aV ?_
  show FQ _ _ _ _
  exact bo (.inr rfl) (aR (v := vb false) rfl rfl) (RV.d trivial)
 ·
  replace h := aJ hc2 h
  refine aO (t := (!r1)) rfl hc2 ?_
  refine bd ?_
  obtain ⟨r3, hr3, h⟩ := au h
  refine ai ⟨tab [(1, aS a1), (5, .d (.cptr (some 8) (eA8 (D.int .u16) a2) 0)), (7, .ptr 0 0 0), (8, vb r3.2)], ac [(0, .var [vi r3.1.Op, vi r3.1.F, vh r3.1.N, bg r3.1.Kids])], 1⟩ ?_ ?_
  ·
   refine q1 _ ?_
   refine bt (r := .tup [br r3.1, .bool r3.2]) (aH aT.nil') (yT hr3) ?_
   iterate 3 refine q1 _ ?_
   refine step (v := .ptr 0 0 0) (σ' := (ak (ac []) 0 (some (bx)))) (n' := 1) rfl ?_
   refine step (v := V.undef) (σ' := (ak (ak (ac []) 0 (some (bx))) 0 (some (.var [vi r3.1.Op, vi r3.1.F, vh r3.1.N, bg r3.1.Kids])))) (n' := 1) rfl ?_
   refine q1 _ ?_
   exact nR [0]
  refine aG ?_
  refine ai ⟨tab [(1, aS a1), (5, .d (.cptr (some 8) (eA8 (D.int .u16) a2) 0)), (7, .ptr 0 0 0), (26, vb ((!r3.2) || (decide ((a1.length : Int) > 6))))], ac [(0, .var [vi r3.1.Op, vi r3.1.F, vh r3.1.N, bg r3.1.Kids])], 1⟩ ?_ ?_
  ·
   iterate 3 refine q1 _ ?_
   by_cases hg4 : (!r3.2) = true
   ·
    iterate 3 refine qX (!r3.2) (by rw [hg4]; decide) ?_
    refine step (v := vb true) (aU (b := (!r3.2)) rfl hg4 rfl) ?_
    exact aP.nil' (nm [0] ⟨.d _, .d _, .pt 0, .eq (by first | (simp [hg4]; done) | (simp_all; done) | grind), trivial⟩ ⟨⟨show 0 < 1 by decide, _, rfl, .vars ⟨.d _, .d _, .d _, .d _, trivial⟩⟩, trivial⟩)
   ·
    refine qG (!r3.2) (Bool.eq_false_iff.2 hg4) ?_
    refine q1 _ ?_
    refine qG (!r3.2) (Bool.eq_false_iff.2 hg4) ?_
    refine step (v := vi (a1.length : Int)) (bz (xs := a1) (e := (D.int .u16)) rfl) ?_
    refine qG (!r3.2) (Bool.eq_false_iff.2 hg4) ?_
    refine q1 _ ?_
    refine step (v := vb (decide ((a1.length : Int) > 6))) (aY (b := (!r3.2)) rfl hg4 rfl) ?_
    exact aP.nil' (nm [0] ⟨.d _, .d _, .pt 0, .eq (by first | (simp [hg4]; done) | (simp_all; done) | grind), trivial⟩ ⟨⟨show 0 < 1 by decide, _, rfl, .vars ⟨.d _, .d _, .d _, .d _, trivial⟩⟩, trivial⟩)
  by_cases hc5 : ((!r3.2) || (decide ((a1.length : Int) > 6))) = true
  ·
   replace h := aI hc5 h
   refine aQ (t := ((!r3.2) || (decide ((a1.length : Int) > 6)))) rfl hc5 ?_
   refine ai ⟨tab [(6, vb true)], ac [], 0⟩ ?_ ?_
   ·
    refine q1 _ ?_
    exact nR []
   have hh := aq h
   subst hh
   refine aV ?_
   show FQ _ _ _ _
   exact bo (.inr rfl) (aR (v := vb true) rfl rfl) (RV.d trivial)
  ·
   replace h := aJ hc5 h
   refine aO (t := ((!r3.2) || (decide ((a1.length : Int) > 6)))) rfl hc5 ?_
   refine bd ?_
   obtain ⟨r6, hr6, h⟩ := au h
   refine ai ⟨tab [(1, aS a1), (5, .d (.cptr (some 8) (eA8 (D.int .u16) a2) 0)), (7, .ptr 0 0 0), (9, .d (eL (some 8) (eA8 (D.int .u16)) r6.1)), (10, vi r6.2)], ac [(0, .var [vi r3.1.Op, vi r3.1.F, vh r3.1.N, bg r3.1.Kids])], 1⟩ ?_ ?_
   ·
    refine step (v := vs1 r3.1) (dI (ds := [.int .i64 r3.1.Op, .int .i64 r3.1.F, .int .u16 r3.1.N, eL (some 4) aF r3.1.Kids]) rfl rfl (show 4 ≤ 4 by decide) rfl) ?_
    iterate 2 refine q1 _ ?_
    refine bt (r := .tup [eL (some 8) (eA8 (D.int .u16)) r6.1, .int .i64 r6.2]) (aH (aH (aH aT.nil'))) (lK hr6) ?_
    iterate 5 refine q1 _ ?_
    exact nR [0]
   obtain ⟨r7, hr7, h⟩ := au h
   refine ai ⟨tab [(1, aS a1), (5, .d (.cptr (some 8) (eA8 (D.int .u16) a2) 0)), (7, .ptr 0 0 0), (9, .d (eL (some 8) (eA8 (D.int .u16)) r6.1)), (10, vi r6.2), (11, .d (eL (some 8) (eA8 (D.int .u16)) r7.1)), (12, vi r7.2)], ac [(0, .var [vi r3.1.Op, vi r3.1.F, vh r3.1.N, bg r3.1.Kids])], 1⟩ ?_ ?_
   ·
    refine step (v := vs1 r3.1) (dI (ds := [.int .i64 r3.1.Op, .int .i64 r3.1.F, .int .u16 r3.1.N, eL (some 4) aF r3.1.Kids]) rfl rfl (show 4 ≤ 4 by decide) rfl) ?_
    iterate 2 refine q1 _ ?_
    refine bt (r := .tup [eL (some 8) (eA8 (D.int .u16)) r7.1, .int .i64 r7.2]) (aH (aH (aH aT.nil'))) (zl hr7) ?_
    iterate 5 refine q1 _ ?_
    exact nR [0]
   obtain ⟨y13, hv, h⟩ := au h
   refine ai ⟨tab [(6, vb y13)], ac [], 0⟩ ?_ ?_
   ·
    iterate 4 refine q1 _ ?_
    by_cases hg8 : (r6.2 == r7.2) = true
    ·
     replace hv := aI hg8 hv
     obtain ⟨r9, hr9, hv⟩ := au hv
     refine qG _ hg8 ?_
     refine q1 _ ?_
     refine qG _ hg8 ?_
     refine q1 _ ?_
     refine qG _ hg8 ?_
     refine bt (r := .bool r9) (aH (aH aT.nil')) (zm hr9) ?_
     refine step (v := vb r9) (aU (b := (r6.2 == r7.2)) rfl hg8 rfl) ?_
     refine q1 _ ?_
     by_cases hg10 : r9 = true
     ·
      replace hv := aI hg10 hv
      obtain ⟨r11, hr11, hv⟩ := au hv
      refine qG _ hg10 ?_
      refine step (v := vs1 r3.1) (dI (ds := [.int .i64 r3.1.Op, .int .i64 r3.1.F, .int .u16 r3.1.N, eL (some 4) aF r3.1.Kids]) rfl rfl (show 4 ≤ 4 by decide) rfl) ?_
      refine qG _ hg10 ?_
      refine q1 _ ?_
      refine qG _ hg10 ?_
      refine q1 _ ?_
      refine qG _ hg10 ?_
      refine bt (r := .bool r11) (aH (aH (aH aT.nil'))) (rJ hr11) ?_
      refine qG _ hg10 ?_
      refine q1 _ ?_
      refine qG _ hg10 ?_
      refine q1 _ ?_
      refine qG _ hg10 ?_
      refine q1 _ ?_
      by_cases hg12 : (r7.2 == 0) = true
      ·
       replace hv := aI hg12 hv
       refine qG _ hg12 ?_
       refine q1 _ ?_
       refine qG _ hg12 ?_
       refine step (v := vi (r7.1.length : Int)) (bz (xs := r7.1) (e := (eA8 (D.int .u16))) rfl) ?_
       refine qG _ hg12 ?_
       refine q1 _ ?_
       refine qG _ hg10 ?_
       refine step (v := vb (decide ((r7.1.length : Int) > 0))) (aU (b := (r7.2 == 0)) rfl hg12 rfl) ?_
       refine qG _ hg10 ?_
       refine q1 _ ?_
       refine step (v := vb (r11 == (decide ((r7.1.length : Int) > 0)))) (aU (b := r9) rfl hg10 rfl) ?_
       refine q1 _ ?_
       have hh := aq hv
       subst hh
       exact nR []
      ·
       replace hv := aJ hg12 hv
       iterate 3 refine qX _ hg12 ?_
       refine qG _ hg10 ?_
       refine step (v := vb false) (aY (b := (r7.2 == 0)) rfl hg12 rfl) ?_
       refine qG _ hg10 ?_
       refine q1 _ ?_
       refine step (v := vb (r11 == false)) (aU (b := r9) rfl hg10 rfl) ?_
       refine q1 _ ?_
       have hh := aq hv
       subst hh
       exact nR []
     ·
      replace hv := aJ hg10 hv
      iterate 7 refine qX _ hg10 ?_
      refine bL rfl ?_
      refine bL rfl ?_
      refine bL rfl ?_
      iterate 2 refine qX _ hg10 ?_
      refine step (v := vb false) (aY (b := r9) rfl hg10 rfl) ?_
      refine q1 _ ?_
      have hh := aq hv
      subst hh
      exact nR []
    ·
     replace hv := aJ hg8 hv
     iterate 3 refine qX _ hg8 ?_
     refine step (v := vb false) (aY (b := (r6.2 == r7.2)) rfl hg8 rfl) ?_
     refine q1 _ ?_
     iterate 7 refine qX false (by decide) ?_
     refine bL rfl ?_
     refine bL rfl ?_
     refine bL rfl ?_
     iterate 2 refine qX false (by decide) ?_
     refine step (v := vb false) (aY (b := false) rfl (by decide) rfl) ?_
     refine q1 _ ?_
     have hh := aq hv
     subst hh
     exact nR []
   have hh := aq h
   subst hh
   refine aV ?_
   show FQ _ _ _ _
   exact bo (.inr rfl) (aR (v := vb y13) rfl rfl) (RV.d trivial)
end Go.AM
