import Derived.Test.YtnnkfanmokeiaaaPnW1
set_option linter.unusedVariables false
set_option linter.unusedSimpArgs false
namespace Go.AM
open Go Go.RowKit Go.Proofs
attribute [local irreducible] aU ca
set_option maxHeartbeats 2000000
theorem vY {self : aj → Int → Option Bool} (hself : ∀ (a0 : aj) (a1 : Int) (r : Bool), self a0 a1 = some r → PCall Try.prog 82 [bo a0, .int .i64 a1] (.bool r)) {a0 : aj} {a1 : Int} {r : Bool} (h : jW self a0 a1 = some r) : PCall Try.prog 82 [bo a0, .int .i64 a1] (.bool r) := by
 refine PCall.introN uX (show 2 ≤ 127 by decide) ?_
 refine aX (s0 := ⟨tab [(0, vs1 a0), (1, vi a1)], ac [], 0⟩) (nr []) ?_
 refine ak ⟨tab [(1, vi a1), (2, aI a0)], ac [], 0⟩ ?_ ?_
 ·
  iterate 2 refine q1 _ ?_
  exact nR []
 refine ak ⟨tab [(1, vi a1), (2, aI a0), (5, vi (a0.Kids.length : Int))], ac [], 0⟩ ?_ ?_
 ·
  iterate 2 refine q1 _ ?_
  refine step (v := vi (a0.Kids.length : Int)) (bI (xs := a0.Kids) (e := aC) rfl) ?_
  refine q1 _ ?_
  exact nR []
 refine aN ?_
 refine ak ⟨tab [(1, vi a1), (2, aI a0), (5, vi (a0.Kids.length : Int)), (11, vi a0.Op)], ac [], 0⟩ ?_ ?_
 ·
  iterate 2 refine q1 _ ?_
  exact nR []
 refine bE ?_
 obtain ⟨y2, hv, h⟩ := aq h
 refine ex ⟨tab [(1, vi a1), (2, aI a0), (5, vi (a0.Kids.length : Int)), (11, vi a0.Op), (12, vb y2)], ac [], 0⟩ ?_ ?_
 ·
  replace h := hv
  refine ak ⟨tab [(1, vi a1), (2, aI a0), (5, vi (a0.Kids.length : Int)), (11, vi a0.Op), (12, vb (a0.Op == 0))], ac [], 0⟩ ?_ ?_
  ·
   iterate 2 refine q1 _ ?_
   exact nR []
  by_cases hc1 : (a0.Op == 0) = true
  ·
   replace h := aG hc1 h
   refine aT (t := (a0.Op == 0)) rfl hc1 ?_
   have hh := ap h
   subst hh
   refine aX (s0 := ⟨tab [(1, vi a1), (2, aI a0), (5, vi (a0.Kids.length : Int)), (11, vi a0.Op), (12, vb (a0.Op == 0))], ac [], 0⟩) (nr []) ?_
   refine bm ?_
   exact And.intro rfl rfl
  ·
   replace h := aH hc1 h
   refine aS (t := (a0.Op == 0)) rfl hc1 ?_
   have hh := ap h
   subst hh
   refine bN ⟨tab [(1, vi a1), (2, aI a0), (5, vi (a0.Kids.length : Int)), (11, vi a0.Op), (12, vb (a0.Op == 1))], ac [], 0⟩ ?_ ?_
   ·
    iterate 2 refine q1 _ ?_
    exact nR []
   exact And.intro rfl rfl
 by_cases hc4 : y2 = true
 ·
  replace h := aG hc4 h
  refine aT (t := y2) rfl hc4 ?_
  refine ak ⟨tab [(4, vb (((a0.Kids.length : Int) == 0) && ((a0.F == 0) && (a0.N == 0))))], ac [], 0⟩ ?_ ?_
  ·
   iterate 3 refine q1 _ ?_
   by_cases hg5 : ((a0.Kids.length : Int) == 0) = true
   ·
    refine qG _ hg5 ?_
    refine q1 _ ?_
    refine qG _ hg5 ?_
    refine q1 _ ?_
    refine qG _ hg5 ?_
    refine q1 _ ?_
    refine step (v := vb (a0.F == 0)) (aJ (b := ((a0.Kids.length : Int) == 0)) rfl hg5 rfl) ?_
    refine q1 _ ?_
    by_cases hg6 : (a0.F == 0) = true
    ·
     refine qG _ hg6 ?_
     refine q1 _ ?_
     refine qG _ hg6 ?_
     refine q1 _ ?_
     refine qG _ hg6 ?_
     refine q1 _ ?_
     refine step (v := vb (a0.N == 0)) (aJ (b := (a0.F == 0)) rfl hg6 rfl) ?_
     refine q1 _ ?_
     exact aU.nil' (nm [] ⟨.eq (by first | (simp [hg5, hg6]; done) | (simp_all; done) | grind), trivial⟩ trivial)
    ·
     iterate 3 refine qX _ hg6 ?_
     refine step (v := vb false) (aM (b := (a0.F == 0)) rfl hg6 rfl) ?_
     refine q1 _ ?_
     exact aU.nil' (nm [] ⟨.eq (by first | (simp [hg5, hg6]; done) | (simp_all; done) | grind), trivial⟩ trivial)
   ·
    iterate 3 refine qX _ hg5 ?_
    refine step (v := vb false) (aM (b := ((a0.Kids.length : Int) == 0)) rfl hg5 rfl) ?_
    refine q1 _ ?_
    iterate 3 refine qX false (by decide) ?_
    refine step (v := vb false) (aM (b := false) rfl (by decide) rfl) ?_
    refine q1 _ ?_
    exact aU.nil' (nm [] ⟨.eq (by first | (simp [hg5]; done) | (simp_all; done) | grind), trivial⟩ trivial)
  have hh := ap h
  subst hh
  refine aV ?_
  show FQ _ _ _ _
  exact bh (.inr rfl) (bn (v := vb (((a0.Kids.length : Int) == 0) && ((a0.F == 0) && (a0.N == 0)))) rfl rfl) (RV.d trivial)
 ·
  replace h := aH hc4 h
  refine aS (t := y2) rfl hc4 ?_
  refine ak ⟨tab [(1, vi a1), (2, aI a0), (5, vi (a0.Kids.length : Int)), (11, vi a0.Op), (27, vb (a0.Op == 2))], ac [], 0⟩ ?_ ?_
  ·
   iterate 2 refine q1 _ ?_
   exact nR []
  by_cases hc7 : (a0.Op == 2) = true
  ·
   replace h := aG hc7 h
   refine aT (t := (a0.Op == 2)) rfl hc7 ?_
   refine ak ⟨tab [(4, vb (((a0.Kids.length : Int) == 0) && ((decide (a0.F ≥ 0)) && (decide (a0.F < 8)))))], ac [], 0⟩ ?_ ?_
   ·
    iterate 3 refine q1 _ ?_
    by_cases hg8 : ((a0.Kids.length : Int) == 0) = true
    ·
     refine qG _ hg8 ?_
     refine q1 _ ?_
     refine qG _ hg8 ?_
     refine q1 _ ?_
     refine qG _ hg8 ?_
     refine q1 _ ?_
     refine step (v := vb (decide (a0.F ≥ 0))) (aJ (b := ((a0.Kids.length : Int) == 0)) rfl hg8 rfl) ?_
     refine q1 _ ?_
     by_cases hg9 : decide (a0.F ≥ 0) = true
     ·
      refine qG _ hg9 ?_
      refine q1 _ ?_
      refine qG _ hg9 ?_
      refine q1 _ ?_
      refine qG _ hg9 ?_
      refine q1 _ ?_
      refine step (v := vb (decide (a0.F < 8))) (aJ (b := decide (a0.F ≥ 0)) rfl hg9 rfl) ?_
      refine q1 _ ?_
      exact aU.nil' (nm [] ⟨.eq (by first | (simp [hg8, hg9]; done) | (simp_all; done) | grind), trivial⟩ trivial)
     ·
      iterate 3 refine qX _ hg9 ?_
      refine step (v := vb false) (aM (b := decide (a0.F ≥ 0)) rfl hg9 rfl) ?_
      refine q1 _ ?_
      exact aU.nil' (nm [] ⟨.eq (by first | (simp [hg8, hg9]; done) | (simp_all; done) | grind), trivial⟩ trivial)
    ·
     iterate 3 refine qX _ hg8 ?_
     refine step (v := vb false) (aM (b := ((a0.Kids.length : Int) == 0)) rfl hg8 rfl) ?_
     refine q1 _ ?_
     iterate 3 refine qX false (by decide) ?_
     refine step (v := vb false) (aM (b := false) rfl (by decide) rfl) ?_
     refine q1 _ ?_
     exact aU.nil' (nm [] ⟨.eq (by first | (simp [hg8]; done) | (simp_all; done) | grind), trivial⟩ trivial)
   have hh := ap h
   subst hh
   refine aV ?_
   show FQ _ _ _ _
   exact bh (.inr rfl) (bn (v := vb (((a0.Kids.length : Int) == 0) && ((decide (a0.F ≥ 0)) && (decide (a0.F < 8))))) rfl rfl) (RV.d trivial)
  ·
   replace h := aH hc7 h
   refine aS (t := (a0.Op == 2)) rfl hc7 ?_
   refine ak ⟨tab [(1, vi a1), (2, aI a0), (5, vi (a0.Kids.length : Int)), (11, vi a0.Op), (41, vb (a0.Op == 3))], ac [], 0⟩ ?_ ?_
   ·
    iterate 2 refine q1 _ ?_
    exact nR []
   by_cases hc10 : (a0.Op == 3) = true
   ·
    replace h := aG hc10 h
    refine aT (t := (a0.Op == 3)) rfl hc10 ?_
    refine ak ⟨tab [(4, vb (((a0.Kids.length : Int) == 0) && ((decide (a0.F ≥ 0)) && (decide (a0.F < a1)))))], ac [], 0⟩ ?_ ?_
    ·
     iterate 3 refine q1 _ ?_
     by_cases hg11 : ((a0.Kids.length : Int) == 0) = true
     ·
      refine qG _ hg11 ?_
      refine q1 _ ?_
      refine qG _ hg11 ?_
      refine q1 _ ?_
      refine qG _ hg11 ?_
      refine q1 _ ?_
      refine step (v := vb (decide (a0.F ≥ 0))) (aJ (b := ((a0.Kids.length : Int) == 0)) rfl hg11 rfl) ?_
      refine q1 _ ?_
      by_cases hg12 : decide (a0.F ≥ 0) = true
      ·
       refine qG _ hg12 ?_
       refine q1 _ ?_
       refine qG _ hg12 ?_
       refine q1 _ ?_
       refine qG _ hg12 ?_
       refine q1 _ ?_
       refine qG _ hg12 ?_
       refine q1 _ ?_
       refine step (v := vb (decide (a0.F < a1))) (aJ (b := decide (a0.F ≥ 0)) rfl hg12 rfl) ?_
       refine q1 _ ?_
       exact aU.nil' (nm [] ⟨.eq (by first | (simp [hg11, hg12]; done) | (simp_all; done) | grind), trivial⟩ trivial)
      ·
       iterate 4 refine qX _ hg12 ?_
       refine step (v := vb false) (aM (b := decide (a0.F ≥ 0)) rfl hg12 rfl) ?_
       refine q1 _ ?_
       exact aU.nil' (nm [] ⟨.eq (by first | (simp [hg11, hg12]; done) | (simp_all; done) | grind), trivial⟩ trivial)
     ·
      iterate 3 refine qX _ hg11 ?_
      refine step (v := vb false) (aM (b := ((a0.Kids.length : Int) == 0)) rfl hg11 rfl) ?_
      refine q1 _ ?_
      iterate 4 refine qX false (by decide) ?_
      refine step (v := vb false) (aM (b := false) rfl (by decide) rfl) ?_
      refine q1 _ ?_
      exact aU.nil' (nm [] ⟨.eq (by first | (simp [hg11]; done) | (simp_all; done) | grind), trivial⟩ trivial)
    have hh := ap h
    subst hh
    refine aV ?_
    show FQ _ _ _ _
    exact bh (.inr rfl) (bn (v := vb (((a0.Kids.length : Int) == 0) && ((decide (a0.F ≥ 0)) && (decide (a0.F < a1))))) rfl rfl) (RV.d trivial)
   ·
    replace h := aH hc10 h
    refine aS (t := (a0.Op == 3)) rfl hc10 ?_
    refine ak ⟨tab [(1, vi a1), (2, aI a0), (5, vi (a0.Kids.length : Int)), (11, vi a0.Op), (56, vb (a0.Op == 5))], ac [], 0⟩ ?_ ?_
    ·
     iterate 2 refine q1 _ ?_
     exact nR []
    by_cases hc13 : (a0.Op == 5) = true
    ·
     replace h := aG hc13 h
     refine aT (t := (a0.Op == 5)) rfl hc13 ?_
     refine ak ⟨tab [(4, vb (((a0.Kids.length : Int) == 0) && ((decide (a0.F ≥ 1)) && (decide (a0.F < 8)))))], ac [], 0⟩ ?_ ?_
     ·
      iterate 3 refine q1 _ ?_
      by_cases hg14 : ((a0.Kids.length : Int) == 0) = true
      ·
       refine qG _ hg14 ?_
       refine q1 _ ?_
       refine qG _ hg14 ?_
       refine q1 _ ?_
       refine qG _ hg14 ?_
       refine q1 _ ?_
       refine step (v := vb (decide (a0.F ≥ 1))) (aJ (b := ((a0.Kids.length : Int) == 0)) rfl hg14 rfl) ?_
       refine q1 _ ?_
       by_cases hg15 : decide (a0.F ≥ 1) = true
       ·
        refine qG _ hg15 ?_
        refine q1 _ ?_
        refine qG _ hg15 ?_
        refine q1 _ ?_
        refine qG _ hg15 ?_
        refine q1 _ ?_
        refine step (v := vb (decide (a0.F < 8))) (aJ (b := decide (a0.F ≥ 1)) rfl hg15 rfl) ?_
        refine q1 _ ?_
        exact aU.nil' (nm [] ⟨.eq (by first | (simp [hg14, hg15]; done) | (simp_all; done) | grind), trivial⟩ trivial)
       ·
        iterate 3 refine qX _ hg15 ?_
        refine step (v := vb false) (aM (b := decide (a0.F ≥ 1)) rfl hg15 rfl) ?_
        refine q1 _ ?_
        exact aU.nil' (nm [] ⟨.eq (by first | (simp [hg14, hg15]; done) | (simp_all; done) | grind), trivial⟩ trivial)
      ·
       iterate 3 refine qX _ hg14 ?_
       refine step (v := vb false) (aM (b := ((a0.Kids.length : Int) == 0)) rfl hg14 rfl) ?_
       refine q1 _ ?_
       iterate 3 refine qX false (by decide) ?_
       refine step (v := vb false) (aM (b := false) rfl (by decide) rfl) ?_
       refine q1 _ ?_
       exact aU.nil' (nm [] ⟨.eq (by first | (simp [hg14]; done) | (simp_all; done) | grind), trivial⟩ trivial)
     have hh := ap h
     subst hh
     refine aV ?_
     show FQ _ _ _ _
     exact bh (.inr rfl) (bn (v := vb (((a0.Kids.length : Int) == 0) && ((decide (a0.F ≥ 1)) && (decide (a0.F < 8))))) rfl rfl) (RV.d trivial)
    ·
     replace h := aH hc13 h
     refine aS (t := (a0.Op == 5)) rfl hc13 ?_
     refine ak ⟨tab [(1, vi a1), (2, aI a0), (5, vi (a0.Kids.length : Int)), (11, vi a0.Op), (70, vb (a0.Op == 4))], ac [], 0⟩ ?_ ?_
     ·
      iterate 2 refine q1 _ ?_
      exact nR []
     by_cases hc16 : (a0.Op == 4) = true
     ·
      replace h := aG hc16 h
      refine aT (t := (a0.Op == 4)) rfl hc16 ?_
      obtain ⟨y24, hv, h⟩ := aq h
      refine ak ⟨tab [(4, vb y24)], ac [], 0⟩ ?_ ?_
      ·
       iterate 3 refine q1 _ ?_
       by_cases hg17 : ((a0.Kids.length : Int) == 1) = true
       ·
        replace hv := aG hg17 hv
        refine qG _ hg17 ?_
        refine q1 _ ?_
        refine qG _ hg17 ?_
        refine q1 _ ?_
        refine qG _ hg17 ?_
        refine q1 _ ?_
        refine step (v := vb (a0.F == 0)) (aJ (b := ((a0.Kids.length : Int) == 1)) rfl hg17 rfl) ?_
        refine q1 _ ?_
        by_cases hg18 : (a0.F == 0) = true
        ·
         replace hv := aG hg18 hv
         refine qG _ hg18 ?_
         refine q1 _ ?_
         refine qG _ hg18 ?_
         refine q1 _ ?_
         refine qG _ hg18 ?_
         refine q1 _ ?_
         refine step (v := vb (a0.N == 0)) (aJ (b := (a0.F == 0)) rfl hg18 rfl) ?_
         refine q1 _ ?_
         by_cases hg19 : (a0.N == 0) = true
         ·
          replace hv := aG hg19 hv
          obtain ⟨x20, hx20, hv⟩ := aq hv
          obtain ⟨r21, hr21, hv⟩ := aq hv
          refine qG _ hg19 ?_
          refine q1 _ ?_
          refine qG _ hg19 ?_
          refine q1 _ ?_
          refine qG _ hg19 ?_
          refine step (v := aI x20) (dq (xs := a0.Kids) (e := aC) hx20 rfl rfl (bP _)) ?_
          refine qG _ hg19 ?_
          refine q1 _ ?_
          refine qG _ hg19 ?_
          refine a9 (r := .bool r21) (aF aL.nil') (me hr21) ?_
          refine step (v := vb r21) (aJ (b := (a0.N == 0)) rfl hg19 rfl) ?_
          refine q1 _ ?_
          by_cases hg22 : r21 = true
          ·
           replace hv := aG hg22 hv
           obtain ⟨r23, hr23, hv⟩ := aq hv
           refine qG _ hg22 ?_
           refine q1 _ ?_
           refine qG _ hg22 ?_
           refine q1 _ ?_
           refine qG _ hg22 ?_
           refine step (v := aI x20) (dq (xs := a0.Kids) (e := aC) hx20 rfl rfl (bP _)) ?_
           refine qG _ hg22 ?_
           refine q1 _ ?_
           refine qG _ hg22 ?_
           refine q1 _ ?_
           refine qG _ hg22 ?_
           refine a9 (r := .bool r23) (aF (aF aL.nil')) (hself _ _ _ hr23) ?_
           refine step (v := vb r23) (aJ (b := r21) rfl hg22 rfl) ?_
           refine q1 _ ?_
           have hh := ap hv
           subst hh
           exact nR []
          ·
           replace hv := aH hg22 hv
           iterate 6 refine qX _ hg22 ?_
           refine step (v := vb false) (aM (b := r21) rfl hg22 rfl) ?_
           refine q1 _ ?_
           have hh := ap hv
           subst hh
           exact nR []
         ·
          replace hv := aH hg19 hv
          iterate 5 refine qX _ hg19 ?_
          refine step (v := vb false) (aM (b := (a0.N == 0)) rfl hg19 rfl) ?_
          refine q1 _ ?_
          iterate 6 refine qX false (by decide) ?_
          refine step (v := vb false) (aM (b := false) rfl (by decide) rfl) ?_
          refine q1 _ ?_
          have hh := ap hv
          subst hh
          exact nR []
        ·
         replace hv := aH hg18 hv
         iterate 3 refine qX _ hg18 ?_
         refine step (v := vb false) (aM (b := (a0.F == 0)) rfl hg18 rfl) ?_
         refine q1 _ ?_
         iterate 5 refine qX false (by decide) ?_
         refine step (v := vb false) (aM (b := false) rfl (by decide) rfl) ?_
         refine q1 _ ?_
         iterate 6 refine qX false (by decide) ?_
         refine step (v := vb false) (aM (b := false) rfl (by decide) rfl) ?_
         refine q1 _ ?_
         have hh := ap hv
         subst hh
         exact nR []
       ·
        replace hv := aH hg17 hv
        iterate 3 refine qX _ hg17 ?_
        refine step (v := vb false) (aM (b := ((a0.Kids.length : Int) == 1)) rfl hg17 rfl) ?_
        refine q1 _ ?_
        iterate 3 refine qX false (by decide) ?_
        refine step (v := vb false) (aM (b := false) rfl (by decide) rfl) ?_
        refine q1 _ ?_
        iterate 5 refine qX false (by decide) ?_
        refine step (v := vb false) (aM (b := false) rfl (by decide) rfl) ?_
        refine q1 _ ?_
        iterate 6 refine qX false (by decide) ?_
        refine step (v := vb false) (aM (b := false) rfl (by decide) rfl) ?_
        refine q1 _ ?_
        have hh := ap hv
        subst hh
        exact nR []
      have hh := ap h
      subst hh
      refine aV ?_
      show FQ _ _ _ _
      exact bh (.inr rfl) (bn (v := vb y24) rfl rfl) (RV.d trivial)
     ·
      replace h := aH hc16 h
      refine aS (t := (a0.Op == 4)) rfl hc16 ?_
      obtain ⟨y27, hv, h⟩ := aq h
      refine ex ⟨tab [(1, vi a1), (2, aI a0), (5, vi (a0.Kids.length : Int)), (99, vb y27)], ac [], 0⟩ ?_ ?_
      ·
       replace h := hv
       refine ak ⟨tab [(1, vi a1), (2, aI a0), (5, vi (a0.Kids.length : Int)), (11, vi a0.Op), (99, vb (a0.Op == 6))], ac [], 0⟩ ?_ ?_
       ·
        iterate 2 refine q1 _ ?_
        exact nR []
       by_cases hc26 : (a0.Op == 6) = true
       ·
        replace h := aG hc26 h
        refine aT (t := (a0.Op == 6)) rfl hc26 ?_
        have hh := ap h
        subst hh
        refine aX (s0 := ⟨tab [(1, vi a1), (2, aI a0), (5, vi (a0.Kids.length : Int)), (99, vb (a0.Op == 6))], ac [], 0⟩) (nr []) ?_
        refine bm ?_
        exact And.intro rfl rfl
       ·
        replace h := aH hc26 h
        refine aS (t := (a0.Op == 6)) rfl hc26 ?_
        have hh := ap h
        subst hh
        refine bN ⟨tab [(1, vi a1), (2, aI a0), (5, vi (a0.Kids.length : Int)), (99, vb (a0.Op == 7))], ac [], 0⟩ ?_ ?_
        ·
         iterate 2 refine q1 _ ?_
         exact nR []
        exact And.intro rfl rfl
      by_cases hc29 : y27 = true
      ·
       replace h := aG hc29 h
       refine aT (t := y27) rfl hc29 ?_
       refine aN ?_
       refine ak ⟨tab [(1, vi a1), (2, aI a0), (5, vi (a0.Kids.length : Int)), (113, vb ((decide ((a0.Kids.length : Int) < 2)) || ((a0.F != 0) || (a0.N != 0))))], ac [], 0⟩ ?_ ?_
       ·
        iterate 3 refine q1 _ ?_
        by_cases hg30 : decide ((a0.Kids.length : Int) < 2) = true
        ·
         iterate 3 refine qX (decide ((a0.Kids.length : Int) < 2)) (by rw [hg30]; decide) ?_
         refine step (v := vb true) (aJ (b := decide ((a0.Kids.length : Int) < 2)) rfl hg30 rfl) ?_
         refine q1 _ ?_
         iterate 3 refine qX true (by decide) ?_
         refine step (v := vb true) (aJ (b := true) rfl rfl rfl) ?_
         exact aU.nil' (nm [] ⟨.d _, .d _, .d _, .eq (by first | (simp [hg30]; done) | (simp_all; done) | grind), trivial⟩ trivial)
        ·
         refine qG (decide ((a0.Kids.length : Int) < 2)) (Bool.eq_false_iff.2 hg30) ?_
         refine q1 _ ?_
         refine qG (decide ((a0.Kids.length : Int) < 2)) (Bool.eq_false_iff.2 hg30) ?_
         refine q1 _ ?_
         refine qG (decide ((a0.Kids.length : Int) < 2)) (Bool.eq_false_iff.2 hg30) ?_
         refine q1 _ ?_
         refine step (v := vb (a0.F != 0)) (aM (b := decide ((a0.Kids.length : Int) < 2)) rfl hg30 rfl) ?_
         refine q1 _ ?_
         by_cases hg31 : (a0.F != 0) = true
         ·
          iterate 3 refine qX (a0.F != 0) (by rw [hg31]; decide) ?_
          refine step (v := vb true) (aJ (b := (a0.F != 0)) rfl hg31 rfl) ?_
          exact aU.nil' (nm [] ⟨.d _, .d _, .d _, .eq (by first | (simp [hg30, hg31]; done) | (simp_all; done) | grind), trivial⟩ trivial)
         ·
          refine qG (a0.F != 0) (Bool.eq_false_iff.2 hg31) ?_
          refine q1 _ ?_
          refine qG (a0.F != 0) (Bool.eq_false_iff.2 hg31) ?_
          refine q1 _ ?_
          refine qG (a0.F != 0) (Bool.eq_false_iff.2 hg31) ?_
          refine q1 _ ?_
          refine step (v := vb (a0.N != 0)) (aM (b := (a0.F != 0)) rfl hg31 rfl) ?_
          exact aU.nil' (nm [] ⟨.d _, .d _, .d _, .eq (by first | (simp [hg30, hg31]; done) | (simp_all; done) | grind), trivial⟩ trivial)
       by_cases hc32 : ((decide ((a0.Kids.length : Int) < 2)) || ((a0.F != 0) || (a0.N != 0))) = true
       ·
        replace h := aG hc32 h
        refine aT (t := ((decide ((a0.Kids.length : Int) < 2)) || ((a0.F != 0) || (a0.N != 0)))) rfl hc32 ?_
        refine ak ⟨tab [(4, vb false)], ac [], 0⟩ ?_ ?_
        ·
         refine q1 _ ?_
         exact nR []
        have hh := ap h
        subst hh
        refine aV ?_
        show FQ _ _ _ _
        exact bh (.inr rfl) (bn (v := vb false) rfl rfl) (RV.d trivial)
       ·
        replace h := aH hc32 h
        refine aS (t := ((decide ((a0.Kids.length : Int) < 2)) || ((a0.F != 0) || (a0.N != 0)))) rfl hc32 ?_
        refine bm ?_
        refine aN ?_
        refine ak ⟨tab [(1, vi a1), (2, aI a0), (5, vi (a0.Kids.length : Int)), (6, vi 0)], ac [], 0⟩ ?_ ?_
        ·
         refine q1 _ ?_
         exact nR []
        obtain ⟨q42, hl, h⟩ := aq h
        refine bE ?_
        refine ey (cK (a0.Kids.length : Int)) (fun (i33 : Int) (qq : Unit) => ⟨tab [(1, vi a1), (2, aI a0), (5, vi (a0.Kids.length : Int)), (6, vi i33)], ac [], 0⟩) 1 (fun (qq : Unit) => ⟨tab [], ac [], 0⟩) bJ cL (r := r) hl (by unfold bJ; omega) ?_ ?_ ?_ ?_
        ·
         rintro i33 ⟨⟩ xr38 hinv36 hgo35 h
         show aP _ _ _ _ _ ⟨tab [(1, vi a1), (2, aI a0), (5, vi (a0.Kids.length : Int)), (6, vi i33)], ac [], 0⟩
         have hc37 : decide (i33 < (a0.Kids.length : Int)) = true := decide_eq_true hgo35
         refine aN ?_
         refine ak ⟨tab [(1, vi a1), (2, aI a0), (5, vi (a0.Kids.length : Int)), (6, vi i33), (115, vi (a0.Kids.length : Int)), (116, vb (decide (i33 < (a0.Kids.length : Int))))], ac [], 0⟩ ?_ ?_
         ·
          iterate 3 refine q1 _ ?_
          exact nR []
         refine cJ 115 rfl fun hB34 => ?_
         refine aT (t := decide (i33 < (a0.Kids.length : Int))) rfl hc37 ?_
         refine bm ?_
         refine aN ?_
         refine bE ?_
         obtain ⟨x39, hx39, h⟩ := aq h
         obtain ⟨r40, hr40, h⟩ := aq h
         refine ak ⟨tab [(1, vi a1), (2, aI a0), (5, vi (a0.Kids.length : Int)), (6, vi i33), (126, vb (!r40))], ac [], 0⟩ ?_ ?_
         ·
          iterate 3 refine q1 _ ?_
          refine step (v := aI x39) (dq (xs := a0.Kids) (e := aC) hx39 rfl rfl (bP _)) ?_
          iterate 2 refine q1 _ ?_
          refine a9 (r := .bool r40) (aF (aF aL.nil')) (hself _ _ _ hr40) ?_
          refine q1 _ ?_
          exact nR []
         by_cases hc41 : (!r40) = true
         ·
          replace h := aG hc41 h
          refine aT (t := (!r40)) rfl hc41 ?_
          refine ak ⟨tab [(4, vb false)], ac [], 0⟩ ?_ ?_
          ·
           refine q1 _ ?_
           exact nR []
          obtain ⟨r42, kr42, hr⟩ := c5 (o := some false) (g := Br.ret) h
          subst hr
          have h := kr42
          have hh := ap h
          subst hh
          refine aV ?_
          refine And.intro (fun hn => nomatch hn) ?_
          intro hq
          have hq := hq.symm
          subst hq
          show FQ _ _ _ _
          exact bh (.inr rfl) (bn (v := vb false) rfl rfl) (RV.d trivial)
         ·
          replace h := aH hc41 h
          refine aS (t := (!r40)) rfl hc41 ?_
          refine bm ?_
          have hh := ap h
          subst hh
          refine bN ⟨tab [(1, vi a1), (2, aI a0), (5, vi (a0.Kids.length : Int)), (6, vi (i33 + 1))], ac [], 0⟩ ?_ ?_
          ·
           refine q1 _ ?_
           refine step (v := vi (i33 + 1)) (cM (cN hinv36 hgo35 hB34) rfl rfl) ?_
           refine q1 _ ?_
           exact nR []
          exact And.intro rfl rfl
        ·
         rintro i33 ⟨⟩ hinv36 hgo35
         show aP _ _ _ _ _ ⟨tab [(1, vi a1), (2, aI a0), (5, vi (a0.Kids.length : Int)), (6, vi i33)], ac [], 0⟩
         have hc37 : ¬ (decide (i33 < (a0.Kids.length : Int)) = true) := fun hq => hgo35 (of_decide_eq_true hq)
         refine aN ?_
         refine ak ⟨tab [(1, vi a1), (2, aI a0), (5, vi (a0.Kids.length : Int)), (6, vi i33), (116, vb (decide (i33 < (a0.Kids.length : Int))))], ac [], 0⟩ ?_ ?_
         ·
          iterate 3 refine q1 _ ?_
          exact nR []
         refine aS (t := decide (i33 < (a0.Kids.length : Int))) rfl hc37 ?_
         refine aX (s0 := ⟨tab [], ac [], 0⟩) (nr []) ?_
         refine cz ?_
         exact And.intro rfl rfl
        ·
         intro r' hq
         subst hq
         exact ap h
        rintro ⟨⟩ rfl
        refine ak ⟨tab [(4, vb true)], ac [], 0⟩ ?_ ?_
        ·
         refine q1 _ ?_
         exact nR []
        have hh := ap h
        subst hh
        refine aV ?_
        show FQ _ _ _ _
        exact bh (.inr rfl) (bn (v := vb true) rfl rfl) (RV.d trivial)
      ·
       replace h := aH hc29 h
       refine aS (t := y27) rfl hc29 ?_
       refine bm ?_
       refine ak ⟨tab [(4, vb false)], ac [], 0⟩ ?_ ?_
       ·
        refine q1 _ ?_
        exact nR []
       have hh := ap h
       subst hh
       refine aV ?_
       show FQ _ _ _ _
       exact bh (.inr rfl) (bn (v := vb false) rfl rfl) (RV.d trivial)
theorem pA : ∀ (k : Nat) (a0 : aj) (a1 : Int) (r : Bool), hH k a0 a1 = some r → PCall Try.prog 82 [bo a0, .int .i64 a1] (.bool r)
 | 0, _, _, _, h => by cases h
 | k + 1, _, _, _, h => vY (pA k) h
theorem vZ {a0 : aj} {a1 : Int} {r : Bool} (h : lO a0 a1 = some r) : PCall Try.prog 82 [bo a0, .int .i64 a1] (.bool r) := pA cm _ _ _ h
theorem mf {a0 : (List dX)} {a1 : Int} {r : Bool} (h : jX a0 a1 = some r) : PCall Try.prog 83 [eL (some 2) cx a0, .int .i64 a1] (.bool r) := by
 refine PCall.introN u0 (show 2 ≤ 45 by decide) ?_
 refine aX (s0 := ⟨tab [(0, bz a0), (1, vi a1)], ac [], 0⟩) (nr []) ?_
 refine ak ⟨tab [(0, bz a0), (1, vi a1)], ac [], 0⟩ ?_ ?_
 ·
  refine q1 _ ?_
  exact nR []
 refine aN ?_
 refine ak ⟨tab [(0, bz a0), (1, vi a1), (5, vi 0)], ac [], 0⟩ ?_ ?_
 ·
  refine q1 _ ?_
  exact nR []
 obtain ⟨q15, hl, h⟩ := aq h
 refine bE ?_
 refine ey (cK (a0.length : Int)) (fun (i1 : Int) (qq : Unit) => ⟨tab [(0, bz a0), (1, vi a1), (5, vi i1)], ac [], 0⟩) 0 (fun (qq : Unit) => ⟨tab [], ac [], 0⟩) bJ cL (r := r) hl (by unfold bJ; omega) ?_ ?_ ?_ ?_
 ·
  rintro i1 ⟨⟩ xr6 hinv4 hgo3 h
  show aP _ _ _ _ _ ⟨tab [(0, bz a0), (1, vi a1), (5, vi i1)], ac [], 0⟩
  have hc5 : decide (i1 < (a0.length : Int)) = true := decide_eq_true hgo3
  refine aN ?_
  refine ak ⟨tab [(0, bz a0), (1, vi a1), (5, vi i1), (8, vi (a0.length : Int)), (9, vb (decide (i1 < (a0.length : Int))))], ac [], 0⟩ ?_ ?_
  ·
   iterate 2 refine q1 _ ?_
   refine step (v := vi (a0.length : Int)) (bI (xs := a0) (e := cx) rfl) ?_
   refine q1 _ ?_
   exact nR []
  refine cJ 8 rfl fun hB2 => ?_
  refine aT (t := decide (i1 < (a0.length : Int))) rfl hc5 ?_
  refine bm ?_
  refine aN ?_
  refine bE ?_
  obtain ⟨x7, hx7, h⟩ := aq h
  obtain ⟨y12, hv, h⟩ := aq h
  refine ak ⟨tab [(0, bz a0), (1, vi a1), (5, vi i1), (44, vb y12)], ac [], 0⟩ ?_ ?_
  ·
   iterate 2 refine q1 _ ?_
   refine step (v := fc x7) (cZ (xs := a0) (e := cx) hx7 rfl rfl) ?_
   iterate 4 refine q1 _ ?_
   by_cases hg8 : decide (x7.F < 0) = true
   ·
    replace hv := aG hg8 hv
    iterate 7 refine qX (decide (x7.F < 0)) (by rw [hg8]; decide) ?_
    refine step (v := vb true) (aJ (b := decide (x7.F < 0)) rfl hg8 rfl) ?_
    refine q1 _ ?_
    iterate 3 refine qX true (by decide) ?_
    refine bM rfl ?_
    refine bM rfl ?_
    refine bM rfl ?_
    refine bM rfl ?_
    refine bM rfl ?_
    refine bM rfl ?_
    refine bM rfl ?_
    refine bM rfl ?_
    refine bM rfl ?_
    refine bM rfl ?_
    refine bM rfl ?_
    refine bM rfl ?_
    refine qX true (by decide) ?_
    refine step (v := vb true) (aJ (b := true) rfl rfl rfl) ?_
    have hh := ap hv
    subst hh
    exact nR []
   ·
    replace hv := aH hg8 hv
    refine qG (decide (x7.F < 0)) (Bool.eq_false_iff.2 hg8) ?_
    refine q1 _ ?_
    refine qG (decide (x7.F < 0)) (Bool.eq_false_iff.2 hg8) ?_
    refine q1 _ ?_
    refine qG (decide (x7.F < 0)) (Bool.eq_false_iff.2 hg8) ?_
    refine step (v := fc x7) (cZ (xs := a0) (e := cx) hx7 rfl rfl) ?_
    refine qG (decide (x7.F < 0)) (Bool.eq_false_iff.2 hg8) ?_
    refine q1 _ ?_
    refine qG (decide (x7.F < 0)) (Bool.eq_false_iff.2 hg8) ?_
    refine q1 _ ?_
    refine qG (decide (x7.F < 0)) (Bool.eq_false_iff.2 hg8) ?_
    refine q1 _ ?_
    refine qG (decide (x7.F < 0)) (Bool.eq_false_iff.2 hg8) ?_
    refine q1 _ ?_
    refine step (v := vb (decide (x7.F ≥ a1))) (aM (b := decide (x7.F < 0)) rfl hg8 rfl) ?_
    refine q1 _ ?_
    by_cases hg9 : decide (x7.F ≥ a1) = true
    ·
     replace hv := aG hg9 hv
     iterate 3 refine qX (decide (x7.F ≥ a1)) (by rw [hg9]; decide) ?_
     refine bM rfl ?_
     refine bM rfl ?_
     refine bM rfl ?_
     refine bM rfl ?_
     refine bM rfl ?_
     refine bM rfl ?_
     refine bM rfl ?_
     refine bM rfl ?_
     refine bM rfl ?_
     refine bM rfl ?_
     refine bM rfl ?_
     refine bM rfl ?_
     refine qX (decide (x7.F ≥ a1)) (by rw [hg9]; decide) ?_
     refine step (v := vb true) (aJ (b := decide (x7.F ≥ a1)) rfl hg9 rfl) ?_
     have hh := ap hv
     subst hh
     exact nR []
    ·
     replace hv := aH hg9 hv
     refine qG (decide (x7.F ≥ a1)) (Bool.eq_false_iff.2 hg9) ?_
     refine q1 _ ?_
     refine qG (decide (x7.F ≥ a1)) (Bool.eq_false_iff.2 hg9) ?_
     refine q1 _ ?_
     refine qG (decide (x7.F ≥ a1)) (Bool.eq_false_iff.2 hg9) ?_
     refine q1 _ ?_
     by_cases hg10 : decide (i1 > 0) = true
     ·
      replace hv := aG hg10 hv
      obtain ⟨x11, hx11, hv⟩ := aq hv
      refine qG _ hg10 ?_
      refine q1 _ ?_
      refine qG _ hg10 ?_
      refine q1 _ ?_
      refine qG _ hg10 ?_
      refine q1 _ ?_
      refine qG _ hg10 ?_
      refine step (v := fc x11) (cZ (xs := a0) (e := cx) hx11 rfl rfl) ?_
      refine qG _ hg10 ?_
      refine q1 _ ?_
      refine qG _ hg10 ?_
      refine q1 _ ?_
      refine qG _ hg10 ?_
      refine q1 _ ?_
      refine qG _ hg10 ?_
      refine q1 _ ?_
      refine qG _ hg10 ?_
      refine step (v := fc x7) (cZ (xs := a0) (e := cx) hx7 rfl rfl) ?_
      refine qG _ hg10 ?_
      refine q1 _ ?_
      refine qG _ hg10 ?_
      refine q1 _ ?_
      refine qG _ hg10 ?_
      refine q1 _ ?_
      refine qG (decide (x7.F ≥ a1)) (Bool.eq_false_iff.2 hg9) ?_
      refine step (v := vb (decide (x11.F ≥ x7.F))) (aJ (b := decide (i1 > 0)) rfl hg10 rfl) ?_
      refine step (v := vb (decide (x11.F ≥ x7.F))) (aM (b := decide (x7.F ≥ a1)) rfl hg9 rfl) ?_
      have hh := ap hv
      subst hh
      exact nR []
     ·
      replace hv := aH hg10 hv
      iterate 12 refine qX _ hg10 ?_
      refine qG (decide (x7.F ≥ a1)) (Bool.eq_false_iff.2 hg9) ?_
      refine step (v := vb false) (aM (b := decide (i1 > 0)) rfl hg10 rfl) ?_
      refine step (v := vb false) (aM (b := decide (x7.F ≥ a1)) rfl hg9 rfl) ?_
      have hh := ap hv
      subst hh
      exact nR []
  by_cases hc14 : y12 = true
  ·
   replace h := aG hc14 h
   refine aT (t := y12) rfl hc14 ?_
   refine ak ⟨tab [(4, vb false)], ac [], 0⟩ ?_ ?_
   ·
    refine q1 _ ?_
    exact nR []
   obtain ⟨r15, kr15, hr⟩ := c5 (o := some false) (g := Br.ret) h
   subst hr
   have h := kr15
   have hh := ap h
   subst hh
   refine aV ?_
   refine And.intro (fun hn => nomatch hn) ?_
   intro hq
   have hq := hq.symm
   subst hq
   show FQ _ _ _ _
   exact bh (.inr rfl) (bn (v := vb false) rfl rfl) (RV.d trivial)
  ·
   replace h := aH hc14 h
   refine aS (t := y12) rfl hc14 ?_
   refine bm ?_
   have hh := ap h
   subst hh
   refine bN ⟨tab [(0, bz a0), (1, vi a1), (5, vi (i1 + 1))], ac [], 0⟩ ?_ ?_
   ·
    refine q1 _ ?_
    refine step (v := vi (i1 + 1)) (cM (cN hinv4 hgo3 hB2) rfl rfl) ?_
    refine q1 _ ?_
    exact nR []
   exact And.intro rfl rfl
 ·
  rintro i1 ⟨⟩ hinv4 hgo3
  show aP _ _ _ _ _ ⟨tab [(0, bz a0), (1, vi a1), (5, vi i1)], ac [], 0⟩
  have hc5 : ¬ (decide (i1 < (a0.length : Int)) = true) := fun hq => hgo3 (of_decide_eq_true hq)
  refine aN ?_
  refine ak ⟨tab [(0, bz a0), (1, vi a1), (5, vi i1), (9, vb (decide (i1 < (a0.length : Int))))], ac [], 0⟩ ?_ ?_
  ·
   iterate 2 refine q1 _ ?_
   refine step (v := vi (a0.length : Int)) (bI (xs := a0) (e := cx) rfl) ?_
   refine q1 _ ?_
   exact nR []
  refine aS (t := decide (i1 < (a0.length : Int))) rfl hc5 ?_
  refine aX (s0 := ⟨tab [], ac [], 0⟩) (nr []) ?_
  refine cz ?_
  exact And.intro rfl rfl
 ·
  intro r' hq
  subst hq
  exact ap h
 rintro ⟨⟩ rfl
 refine ak ⟨tab [(4, vb true)], ac [], 0⟩ ?_ ?_
 ·
  refine q1 _ ?_
  exact nR []
 have hh := ap h
 subst hh
 refine aV ?_
 show FQ _ _ _ _
 exact bh (.inr rfl) (bn (v := vb true) rfl rfl) (RV.d trivial)
theorem v5 {a0 : ez} {r : Int} (h : jY a0 = some r) : PCall Try.prog 56 [i7 a0] (.int .i64 r) := by
 refine PCall.introN u4 (show 1 ≤ 102 by decide) ?_
 refine aX (s0 := ⟨tab [(0, .d (i7 a0))], ac [], 0⟩) (nr []) ?_
 refine ak ⟨tab [(1, dw a0)], ac [], 0⟩ ?_ ?_
 ·
  iterate 2 refine q1 _ ?_
  exact nR []
 refine aN ?_
 obtain ⟨y7, hv, h⟩ := aq h
 refine ak ⟨tab [(1, dw a0), (32, vb y7)], ac [], 0⟩ ?_ ?_
 ·
  iterate 2 refine q1 _ ?_
  refine step (v := vi (a0.Init.length : Int)) (bI (xs := a0.Init) (e := (D.int .u16)) rfl) ?_
  iterate 2 refine q1 _ ?_
  by_cases hg1 : decide ((a0.Init.length : Int) < 1) = true
  ·
   replace hv := aG hg1 hv
   iterate 4 refine qX (decide ((a0.Init.length : Int) < 1)) (by rw [hg1]; decide) ?_
   refine step (v := vb true) (aJ (b := decide ((a0.Init.length : Int) < 1)) rfl hg1 rfl) ?_
   refine q1 _ ?_
   iterate 4 refine qX true (by decide) ?_
   refine step (v := vb true) (aJ (b := true) rfl rfl rfl) ?_
   refine q1 _ ?_
   iterate 4 refine qX true (by decide) ?_
   refine step (v := vb true) (aJ (b := true) rfl rfl rfl) ?_
   refine q1 _ ?_
   iterate 4 refine qX true (by decide) ?_
   refine step (v := vb true) (aJ (b := true) rfl rfl rfl) ?_
   have hh := ap hv
   subst hh
   exact nR []
  ·
   replace hv := aH hg1 hv
   refine qG (decide ((a0.Init.length : Int) < 1)) (Bool.eq_false_iff.2 hg1) ?_
   refine q1 _ ?_
   refine qG (decide ((a0.Init.length : Int) < 1)) (Bool.eq_false_iff.2 hg1) ?_
   refine q1 _ ?_
   refine qG (decide ((a0.Init.length : Int) < 1)) (Bool.eq_false_iff.2 hg1) ?_
   refine step (v := vi (a0.Init.length : Int)) (bI (xs := a0.Init) (e := (D.int .u16)) rfl) ?_
   refine qG (decide ((a0.Init.length : Int) < 1)) (Bool.eq_false_iff.2 hg1) ?_
   refine q1 _ ?_
   refine step (v := vb (decide ((a0.Init.length : Int) > 4))) (aM (b := decide ((a0.Init.length : Int) < 1)) rfl hg1 rfl) ?_
   refine q1 _ ?_
   by_cases hg2 : decide ((a0.Init.length : Int) > 4) = true
   ·
    replace hv := aG hg2 hv
    iterate 4 refine qX (decide ((a0.Init.length : Int) > 4)) (by rw [hg2]; decide) ?_
    refine step (v := vb true) (aJ (b := decide ((a0.Init.length : Int) > 4)) rfl hg2 rfl) ?_
    refine q1 _ ?_
    iterate 4 refine qX true (by decide) ?_
    refine step (v := vb true) (aJ (b := true) rfl rfl rfl) ?_
    refine q1 _ ?_
    iterate 4 refine qX true (by decide) ?_
    refine step (v := vb true) (aJ (b := true) rfl rfl rfl) ?_
    have hh := ap hv
    subst hh
    exact nR []
   ·
    replace hv := aH hg2 hv
    obtain ⟨r3, hr3, hv⟩ := aq hv
    refine qG (decide ((a0.Init.length : Int) > 4)) (Bool.eq_false_iff.2 hg2) ?_
    refine q1 _ ?_
    refine qG (decide ((a0.Init.length : Int) > 4)) (Bool.eq_false_iff.2 hg2) ?_
    refine q1 _ ?_
    refine qG (decide ((a0.Init.length : Int) > 4)) (Bool.eq_false_iff.2 hg2) ?_
    refine a9 (r := .int .i64 r3) (aF aL.nil') (pw hr3) ?_
    refine qG (decide ((a0.Init.length : Int) > 4)) (Bool.eq_false_iff.2 hg2) ?_
    refine q1 _ ?_
    refine step (v := vb (decide (r3 > 300))) (aM (b := decide ((a0.Init.length : Int) > 4)) rfl hg2 rfl) ?_
    refine q1 _ ?_
    by_cases hg4 : decide (r3 > 300) = true
    ·
     replace hv := aG hg4 hv
     iterate 4 refine qX (decide (r3 > 300)) (by rw [hg4]; decide) ?_
     refine step (v := vb true) (aJ (b := decide (r3 > 300)) rfl hg4 rfl) ?_
     refine q1 _ ?_
     iterate 4 refine qX true (by decide) ?_
     refine step (v := vb true) (aJ (b := true) rfl rfl rfl) ?_
     have hh := ap hv
     subst hh
     exact nR []
    ·
     replace hv := aH hg4 hv
     obtain ⟨r5, hr5, hv⟩ := aq hv
     refine qG (decide (r3 > 300)) (Bool.eq_false_iff.2 hg4) ?_
     refine q1 _ ?_
     refine qG (decide (r3 > 300)) (Bool.eq_false_iff.2 hg4) ?_
     refine q1 _ ?_
     refine qG (decide (r3 > 300)) (Bool.eq_false_iff.2 hg4) ?_
     refine a9 (r := .int .i64 r5) (aF aL.nil') (py hr5) ?_
     refine qG (decide (r3 > 300)) (Bool.eq_false_iff.2 hg4) ?_
     refine q1 _ ?_
     refine step (v := vb (decide (r5 > 20))) (aM (b := decide (r3 > 300)) rfl hg4 rfl) ?_
     refine q1 _ ?_
     by_cases hg6 : decide (r5 > 20) = true
     ·
      replace hv := aG hg6 hv
      iterate 4 refine qX (decide (r5 > 20)) (by rw [hg6]; decide) ?_
      refine step (v := vb true) (aJ (b := decide (r5 > 20)) rfl hg6 rfl) ?_
      have hh := ap hv
      subst hh
      exact nR []
     ·
      replace hv := aH hg6 hv
      refine qG (decide (r5 > 20)) (Bool.eq_false_iff.2 hg6) ?_
      refine q1 _ ?_
      refine qG (decide (r5 > 20)) (Bool.eq_false_iff.2 hg6) ?_
      refine q1 _ ?_
      refine qG (decide (r5 > 20)) (Bool.eq_false_iff.2 hg6) ?_
      refine step (v := vi (a0.Rules.length : Int)) (bI (xs := a0.Rules) (e := eO) rfl) ?_
      refine qG (decide (r5 > 20)) (Bool.eq_false_iff.2 hg6) ?_
      refine q1 _ ?_
      refine step (v := vb (decide ((a0.Rules.length : Int) > 24))) (aM (b := decide (r5 > 20)) rfl hg6 rfl) ?_
      have hh := ap hv
      subst hh
      exact nR []
 by_cases hc9 : y7 = true
 ·
  replace h := aG hc9 h
  refine aT (t := y7) rfl hc9 ?_
  refine ak ⟨tab [(2, vi 2)], ac [], 0⟩ ?_ ?_
  ·
   refine q1 _ ?_
   exact nR []
  have hh := ap h
  subst hh
  refine aV ?_
  show FQ _ _ _ _
  exact bh (.inr rfl) (bn (v := vi 2) rfl rfl) (RV.d trivial)
 ·
  replace h := aH hc9 h
  refine aS (t := y7) rfl hc9 ?_
  refine bm ?_
  refine aN ?_
  obtain ⟨r10, hr10, h⟩ := aq h
  refine ak ⟨tab [(1, dw a0), (39, vb (!r10))], ac [], 0⟩ ?_ ?_
  ·
   iterate 4 refine q1 _ ?_
   refine step (v := vi (a0.Init.length : Int)) (bI (xs := a0.Init) (e := (D.int .u16)) rfl) ?_
   refine a9 (r := .bool r10) (aF (aF aL.nil')) (vZ hr10) ?_
   refine q1 _ ?_
   exact nR []
  by_cases hc11 : (!r10) = true
  ·
   replace h := aG hc11 h
   refine aT (t := (!r10)) rfl hc11 ?_
   refine ak ⟨tab [(2, vi 11)], ac [], 0⟩ ?_ ?_
   ·
    refine q1 _ ?_
    exact nR []
   have hh := ap h
   subst hh
   refine aV ?_
   show FQ _ _ _ _
   exact bh (.inr rfl) (bn (v := vi 11) rfl rfl) (RV.d trivial)
  ·
   replace h := aH hc11 h
   refine aS (t := (!r10)) rfl hc11 ?_
   refine bm ?_
   refine aN ?_
   refine ak ⟨tab [(1, dw a0), (3, vi 0)], ac [], 0⟩ ?_ ?_
   ·
    refine q1 _ ?_
    exact nR []
   obtain ⟨q33, hl, h⟩ := aq h
   refine bE ?_
   refine ey (cK (a0.Rules.length : Int)) (fun (i12 : Int) (qq : Unit) => ⟨tab [(1, dw a0), (3, vi i12)], ac [], 0⟩) 0 (fun (qq : Unit) => ⟨tab [], ac [], 0⟩) bJ cL (r := r) hl (by unfold bJ; omega) ?_ ?_ ?_ ?_
   ·
    rintro i12 ⟨⟩ xr17 hinv15 hgo14 h
    show aP _ _ _ _ _ ⟨tab [(1, dw a0), (3, vi i12)], ac [], 0⟩
    have hc16 : decide (i12 < (a0.Rules.length : Int)) = true := decide_eq_true hgo14
    refine aN ?_
    refine ak ⟨tab [(1, dw a0), (3, vi i12), (43, vi (a0.Rules.length : Int)), (44, vb (decide (i12 < (a0.Rules.length : Int))))], ac [], 0⟩ ?_ ?_
    ·
     iterate 3 refine q1 _ ?_
     refine step (v := vi (a0.Rules.length : Int)) (bI (xs := a0.Rules) (e := eO) rfl) ?_
     refine q1 _ ?_
     exact nR []
    refine cJ 43 rfl fun hB13 => ?_
    refine aT (t := decide (i12 < (a0.Rules.length : Int))) rfl hc16 ?_
    refine bm ?_
    refine aN ?_
    refine bE ?_
    obtain ⟨x18, hx18, h⟩ := aq h
    refine ak ⟨tab [(1, dw a0), (3, vi i12), (4, .ptr 0 0 0)], ac [(0, .var [bz x18.When, bz x18.Guard, bz x18.Then])], 1⟩ ?_ ?_
    ·
     iterate 3 refine q1 _ ?_
     refine step (v := .d (.cptr (some 3) (eO x18) 0)) (cZ (xs := a0.Rules) (e := eO) hx18 rfl rfl) ?_
     refine q1 _ ?_
     refine step (v := .ptr 0 0 0) (σ' := (al (ac []) 0 (some (.var [bz [], bz [], bz []])))) (n' := 1) rfl ?_
     refine step (v := V.undef) (σ' := (al (al (ac []) 0 (some (.var [bz [], bz [], bz []]))) 0 (some (.var [bz x18.When, bz x18.Guard, bz x18.Then])))) (n' := 1) rfl ?_
     exact nR [0]
    obtain ⟨y30, hv, h⟩ := aq h
    refine ak ⟨tab [(1, dw a0), (3, vi i12), (101, vb y30)], ac [], 0⟩ ?_ ?_
    ·
     iterate 2 refine q1 _ ?_
     refine step (v := vi (x18.When.length : Int)) (bI (xs := x18.When) (e := cx) rfl) ?_
     iterate 2 refine q1 _ ?_
     by_cases hg19 : decide ((x18.When.length : Int) < 2) = true
     ·
      replace hv := aG hg19 hv
      iterate 6 refine qX (decide ((x18.When.length : Int) < 2)) (by rw [hg19]; decide) ?_
      refine step (v := vb true) (aJ (b := decide ((x18.When.length : Int) < 2)) rfl hg19 rfl) ?_
      refine q1 _ ?_
      iterate 6 refine qX true (by decide) ?_
      refine step (v := vb true) (aJ (b := true) rfl rfl rfl) ?_
      refine q1 _ ?_
      iterate 4 refine qX true (by decide) ?_
      refine step (v := vb true) (aJ (b := true) rfl rfl rfl) ?_
      refine q1 _ ?_
      iterate 7 refine qX true (by decide) ?_
      refine step (v := vb true) (aJ (b := true) rfl rfl rfl) ?_
      refine q1 _ ?_
      iterate 7 refine qX true (by decide) ?_
      refine step (v := vb true) (aJ (b := true) rfl rfl rfl) ?_
      refine q1 _ ?_
      iterate 4 refine qX true (by decide) ?_
      refine step (v := vb true) (aJ (b := true) rfl rfl rfl) ?_
      have hh := ap hv
      subst hh
      exact nR []
     ·
      replace hv := aH hg19 hv
      obtain ⟨x20, hx20, hv⟩ := aq hv
      refine qG (decide ((x18.When.length : Int) < 2)) (Bool.eq_false_iff.2 hg19) ?_
      refine q1 _ ?_
      refine qG (decide ((x18.When.length : Int) < 2)) (Bool.eq_false_iff.2 hg19) ?_
      refine q1 _ ?_
      refine qG (decide ((x18.When.length : Int) < 2)) (Bool.eq_false_iff.2 hg19) ?_
      refine step (v := fc x20) (cZ (xs := x18.When) (e := cx) hx20 rfl rfl) ?_
      refine qG (decide ((x18.When.length : Int) < 2)) (Bool.eq_false_iff.2 hg19) ?_
      refine q1 _ ?_
      refine qG (decide ((x18.When.length : Int) < 2)) (Bool.eq_false_iff.2 hg19) ?_
      refine q1 _ ?_
      refine qG (decide ((x18.When.length : Int) < 2)) (Bool.eq_false_iff.2 hg19) ?_
      refine q1 _ ?_
      refine step (v := vb (x20.F != 0)) (aM (b := decide ((x18.When.length : Int) < 2)) rfl hg19 rfl) ?_
      refine q1 _ ?_
      by_cases hg21 : (x20.F != 0) = true
      ·
       replace hv := aG hg21 hv
       iterate 6 refine qX (x20.F != 0) (by rw [hg21]; decide) ?_
       refine step (v := vb true) (aJ (b := (x20.F != 0)) rfl hg21 rfl) ?_
       refine q1 _ ?_
       iterate 4 refine qX true (by decide) ?_
       refine step (v := vb true) (aJ (b := true) rfl rfl rfl) ?_
       refine q1 _ ?_
       iterate 7 refine qX true (by decide) ?_
       refine step (v := vb true) (aJ (b := true) rfl rfl rfl) ?_
       refine q1 _ ?_
       iterate 7 refine qX true (by decide) ?_
       refine step (v := vb true) (aJ (b := true) rfl rfl rfl) ?_
       refine q1 _ ?_
       iterate 4 refine qX true (by decide) ?_
       refine step (v := vb true) (aJ (b := true) rfl rfl rfl) ?_
       have hh := ap hv
       subst hh
       exact nR []
      ·
       replace hv := aH hg21 hv
       obtain ⟨x22, hx22, hv⟩ := aq hv
       refine qG (x20.F != 0) (Bool.eq_false_iff.2 hg21) ?_
       refine q1 _ ?_
       refine qG (x20.F != 0) (Bool.eq_false_iff.2 hg21) ?_
       refine q1 _ ?_
       refine qG (x20.F != 0) (Bool.eq_false_iff.2 hg21) ?_
       refine step (v := fc x22) (cZ (xs := x18.When) (e := cx) hx22 rfl rfl) ?_
       refine qG (x20.F != 0) (Bool.eq_false_iff.2 hg21) ?_
       refine q1 _ ?_
       refine qG (x20.F != 0) (Bool.eq_false_iff.2 hg21) ?_
       refine q1 _ ?_
       refine qG (x20.F != 0) (Bool.eq_false_iff.2 hg21) ?_
       refine q1 _ ?_
       refine step (v := vb (x22.F != 1)) (aM (b := (x20.F != 0)) rfl hg21 rfl) ?_
       refine q1 _ ?_
       by_cases hg23 : (x22.F != 1) = true
       ·
        replace hv := aG hg23 hv
        iterate 4 refine qX (x22.F != 1) (by rw [hg23]; decide) ?_
        refine step (v := vb true) (aJ (b := (x22.F != 1)) rfl hg23 rfl) ?_
        refine q1 _ ?_
        iterate 7 refine qX true (by decide) ?_
        refine step (v := vb true) (aJ (b := true) rfl rfl rfl) ?_
        refine q1 _ ?_
        iterate 7 refine qX true (by decide) ?_
        refine step (v := vb true) (aJ (b := true) rfl rfl rfl) ?_
        refine q1 _ ?_
        iterate 4 refine qX true (by decide) ?_
        refine step (v := vb true) (aJ (b := true) rfl rfl rfl) ?_
        have hh := ap hv
        subst hh
        exact nR []
       ·
        replace hv := aH hg23 hv
        obtain ⟨r24, hr24, hv⟩ := aq hv
        refine qG (x22.F != 1) (Bool.eq_false_iff.2 hg23) ?_
        refine q1 _ ?_
        refine qG (x22.F != 1) (Bool.eq_false_iff.2 hg23) ?_
        refine q1 _ ?_
        refine qG (x22.F != 1) (Bool.eq_false_iff.2 hg23) ?_
        refine a9 (r := .bool r24) (aF (aF aL.nil')) (mf hr24) ?_
        refine qG (x22.F != 1) (Bool.eq_false_iff.2 hg23) ?_
        refine q1 _ ?_
        refine step (v := vb (!r24)) (aM (b := (x22.F != 1)) rfl hg23 rfl) ?_
        refine q1 _ ?_
        by_cases hg25 : (!r24) = true
        ·
         replace hv := aG hg25 hv
         iterate 7 refine qX (!r24) (by rw [hg25]; decide) ?_
         refine step (v := vb true) (aJ (b := (!r24)) rfl hg25 rfl) ?_
         refine q1 _ ?_
         iterate 7 refine qX true (by decide) ?_
         refine step (v := vb true) (aJ (b := true) rfl rfl rfl) ?_
         refine q1 _ ?_
         iterate 4 refine qX true (by decide) ?_
         refine step (v := vb true) (aJ (b := true) rfl rfl rfl) ?_
         have hh := ap hv
         subst hh
         exact nR []
        ·
         replace hv := aH hg25 hv
         obtain ⟨r26, hr26, hv⟩ := aq hv
         refine qG (!r24) (Bool.eq_false_iff.2 hg25) ?_
         refine q1 _ ?_
         refine qG (!r24) (Bool.eq_false_iff.2 hg25) ?_
         refine q1 _ ?_
         refine qG (!r24) (Bool.eq_false_iff.2 hg25) ?_
         refine q1 _ ?_
         refine qG (!r24) (Bool.eq_false_iff.2 hg25) ?_
         refine q1 _ ?_
         refine qG (!r24) (Bool.eq_false_iff.2 hg25) ?_
         refine step (v := vi (a0.Init.length : Int)) (bI (xs := a0.Init) (e := (D.int .u16)) rfl) ?_
         refine qG (!r24) (Bool.eq_false_iff.2 hg25) ?_
         refine a9 (r := .bool r26) (aF (aF aL.nil')) (mf hr26) ?_
         refine qG (!r24) (Bool.eq_false_iff.2 hg25) ?_
         refine q1 _ ?_
         refine step (v := vb (!r26)) (aM (b := (!r24)) rfl hg25 rfl) ?_
         refine q1 _ ?_
         by_cases hg27 : (!r26) = true
         ·
          replace hv := aG hg27 hv
          iterate 7 refine qX (!r26) (by rw [hg27]; decide) ?_
          refine step (v := vb true) (aJ (b := (!r26)) rfl hg27 rfl) ?_
          refine q1 _ ?_
          iterate 4 refine qX true (by decide) ?_
          refine step (v := vb true) (aJ (b := true) rfl rfl rfl) ?_
          have hh := ap hv
          subst hh
          exact nR []
         ·
          replace hv := aH hg27 hv
          obtain ⟨r28, hr28, hv⟩ := aq hv
          refine qG (!r26) (Bool.eq_false_iff.2 hg27) ?_
          refine q1 _ ?_
          refine qG (!r26) (Bool.eq_false_iff.2 hg27) ?_
          refine q1 _ ?_
          refine qG (!r26) (Bool.eq_false_iff.2 hg27) ?_
          refine q1 _ ?_
          refine qG (!r26) (Bool.eq_false_iff.2 hg27) ?_
          refine q1 _ ?_
          refine qG (!r26) (Bool.eq_false_iff.2 hg27) ?_
          refine step (v := vi (a0.Init.length : Int)) (bI (xs := a0.Init) (e := (D.int .u16)) rfl) ?_
          refine qG (!r26) (Bool.eq_false_iff.2 hg27) ?_
          refine a9 (r := .bool r28) (aF (aF aL.nil')) (mf hr28) ?_
          refine qG (!r26) (Bool.eq_false_iff.2 hg27) ?_
          refine q1 _ ?_
          refine step (v := vb (!r28)) (aM (b := (!r26)) rfl hg27 rfl) ?_
          refine q1 _ ?_
          by_cases hg29 : (!r28) = true
          ·
           replace hv := aG hg29 hv
           iterate 4 refine qX (!r28) (by rw [hg29]; decide) ?_
           refine step (v := vb true) (aJ (b := (!r28)) rfl hg29 rfl) ?_
           have hh := ap hv
           subst hh
           exact nR []
          ·
           replace hv := aH hg29 hv
           refine qG (!r28) (Bool.eq_false_iff.2 hg29) ?_
           refine q1 _ ?_
           refine qG (!r28) (Bool.eq_false_iff.2 hg29) ?_
           refine q1 _ ?_
           refine qG (!r28) (Bool.eq_false_iff.2 hg29) ?_
           refine step (v := vi (x18.Then.length : Int)) (bI (xs := x18.Then) (e := cx) rfl) ?_
           refine qG (!r28) (Bool.eq_false_iff.2 hg29) ?_
           refine q1 _ ?_
           refine step (v := vb ((x18.Then.length : Int) == 0)) (aM (b := (!r28)) rfl hg29 rfl) ?_
           have hh := ap hv
           subst hh
           exact nR []
    by_cases hc32 : y30 = true
    ·
     replace h := aG hc32 h
     refine aT (t := y30) rfl hc32 ?_
     refine ak ⟨tab [(2, vi 11)], ac [], 0⟩ ?_ ?_
     ·
      refine q1 _ ?_
      exact nR []
     obtain ⟨r33, kr33, hr⟩ := c5 (o := some 11) (g := Br.ret) h
     subst hr
     have h := kr33
     have hh := ap h
     subst hh
     refine aV ?_
     refine And.intro (fun hn => nomatch hn) ?_
     intro hq
     have hq := hq.symm
     subst hq
     show FQ _ _ _ _
     exact bh (.inr rfl) (bn (v := vi 11) rfl rfl) (RV.d trivial)
    ·
     replace h := aH hc32 h
     refine aS (t := y30) rfl hc32 ?_
     refine bm ?_
     have hh := ap h
     subst hh
     refine bN ⟨tab [(1, dw a0), (3, vi (i12 + 1))], ac [], 0⟩ ?_ ?_
     ·
      refine q1 _ ?_
      refine step (v := vi (i12 + 1)) (cM (cN hinv15 hgo14 hB13) rfl rfl) ?_
      refine q1 _ ?_
      exact nR []
     exact And.intro rfl rfl
   ·
    rintro i12 ⟨⟩ hinv15 hgo14
    show aP _ _ _ _ _ ⟨tab [(1, dw a0), (3, vi i12)], ac [], 0⟩
    have hc16 : ¬ (decide (i12 < (a0.Rules.length : Int)) = true) := fun hq => hgo14 (of_decide_eq_true hq)
    refine aN ?_
    refine ak ⟨tab [(1, dw a0), (3, vi i12), (44, vb (decide (i12 < (a0.Rules.length : Int))))], ac [], 0⟩ ?_ ?_
    ·
     iterate 3 refine q1 _ ?_
     refine step (v := vi (a0.Rules.length : Int)) (bI (xs := a0.Rules) (e := eO) rfl) ?_
     refine q1 _ ?_
     exact nR []
    refine aS (t := decide (i12 < (a0.Rules.length : Int))) rfl hc16 ?_
    refine aX (s0 := ⟨tab [], ac [], 0⟩) (nr []) ?_
    refine cz ?_
    exact And.intro rfl rfl
   ·
    intro r' hq
    subst hq
    exact ap h
   rintro ⟨⟩ rfl
   refine ak ⟨tab [(2, vi 0)], ac [], 0⟩ ?_ ?_
   ·
    refine q1 _ ?_
    exact nR []
   have hh := ap h
   subst hh
   refine aV ?_
   show FQ _ _ _ _
   exact bh (.inr rfl) (bn (v := vi 0) rfl rfl) (RV.d trivial)
theorem v6 {a0 : aj} {r : Bool} (h : iW a0 = some r) : PCall Try.prog 27 [bo a0] (.bool r) := by
 refine PCall.introN u6 (show 1 ≤ 8 by decide) ?_
 refine aX (s0 := ⟨tab [(0, vs1 a0)], ac [], 0⟩) (nr []) ?_
 refine ak ⟨tab [(1, aI a0)], ac [], 0⟩ ?_ ?_
 ·
  iterate 2 refine q1 _ ?_
  exact nR []
 obtain ⟨l1, hl1, h⟩ := aq h
 obtain ⟨r2, hr2, h⟩ := aq h
 refine ak ⟨tab [(2, vb (r2 == 0))], ac [], 0⟩ ?_ ?_
 ·
  refine step (v := .loc 0 0 l1.length) (σ' := (al (ac []) 0 (some (.lst false none (List.map (D.int .u16) l1))))) (n' := 1) (n7 (e := (D.int .u16)) (z := 0) hl1 rfl rfl (n8 hl1)) ?_
  iterate 2 refine q1 _ ?_
  refine a9 (r := .int .i64 r2) (nK (lj (dk (jG (xs := l1) (e := (D.int .u16)) rfl rfl) (dk dW (dk dW (dk dW (dk dW (dk dW jF))))))) (cy.aggs (by exact ⟨.refl _, .refl _, .refl _, .refl _, .refl _, .refl _, trivial⟩)) aL.nil') (v5 hr2) ?_
  iterate 2 refine q1 _ ?_
  exact nR []
 have hh := ap h
 subst hh
 refine aV ?_
 show FQ _ _ _ _
 exact bh (.inr rfl) (bn (v := vb (r2 == 0)) rfl rfl) (RV.d trivial)
theorem v7 {a0 : (List aj)} {r : Bool} (h : jZ a0 = some r) : PCall Try.prog 18 [eL (some 4) aC a0] (.bool r) := by
 refine PCall.introN va (show 1 ≤ 25 by decide) ?_
 refine aX (s0 := ⟨tab [(0, aE a0)], ac [], 0⟩) (nr []) ?_
 refine ak ⟨tab [(0, aE a0)], ac [], 0⟩ ?_ ?_
 ·
  refine q1 _ ?_
  exact nR []
 refine aN ?_
 refine ak ⟨tab [(5, aE a0), (6, vi (a0.length : Int)), (7, vi 0)], ac [], 0⟩ ?_ ?_
 ·
  refine q1 _ ?_
  refine step (v := vi (a0.length : Int)) (bI (xs := a0) (e := aC) rfl) ?_
  refine q1 _ ?_
  exact nR []
 obtain ⟨q16, hl, h⟩ := aq h
 refine bE ?_
 refine ey (cK (a0.length : Int)) (fun (i1 : Int) (qq : Unit) => ⟨tab [(5, aE a0), (6, vi (a0.length : Int)), (7, vi i1)], ac [], 0⟩) 0 (fun (qq : Unit) => ⟨tab [], ac [], 0⟩) bJ cL (r := r) hl (by unfold bJ; omega) ?_ ?_ ?_ ?_
 ·
  rintro i1 ⟨⟩ xr6 hinv4 hgo3 h
  show aP _ _ _ _ _ ⟨tab [(5, aE a0), (6, vi (a0.length : Int)), (7, vi i1)], ac [], 0⟩
  have hc5 : decide (i1 < (a0.length : Int)) = true := decide_eq_true hgo3
  refine ak ⟨tab [(5, aE a0), (6, vi (a0.length : Int)), (7, vi i1), (8, vb (decide (i1 < (a0.length : Int))))], ac [], 0⟩ ?_ ?_
  ·
   refine q1 _ ?_
   exact nR []
  refine cJ 6 rfl fun hB2 => ?_
  refine aN ?_
  refine aT (t := decide (i1 < (a0.length : Int))) rfl hc5 ?_
  refine bm ?_
  refine aN ?_
  refine bE ?_
  obtain ⟨x7, hx7, h⟩ := aq h
  refine ak ⟨tab [(4, .ptr 0 0 0), (5, aE a0), (6, vi (a0.length : Int)), (7, vi i1)], ac [(0, bY x7)], 1⟩ ?_ ?_
  ·
   refine step (v := aI x7) (dq (xs := a0) (e := aC) hx7 rfl rfl (bP _)) ?_
   refine q1 _ ?_
   refine step (v := .ptr 0 0 0) (σ' := (al (ac []) 0 (some (bk)))) (n' := 1) rfl ?_
   refine step (v := V.undef) (σ' := (al (al (ac []) 0 (some (bk))) 0 (some (bY x7)))) (n' := 1) rfl ?_
   exact nR [0]
  obtain ⟨r8, hr8, h⟩ := aq h
  obtain ⟨y13, hv, h⟩ := aq h
  refine ak ⟨tab [(5, aE a0), (6, vi (a0.length : Int)), (7, vi i1), (23, vb y13)], ac [], 0⟩ ?_ ?_
  ·
   refine step (v := vs1 x7) (bS (ds := [.int .i64 x7.Op, .int .i64 x7.F, .int .u16 x7.N, eL (some 4) aC x7.Kids]) rfl rfl (show 4 ≤ 4 by decide) rfl) ?_
   refine a9 (r := .bool r8) (aF aL.nil') (v6 hr8) ?_
   iterate 2 refine q1 _ ?_
   by_cases hg9 : (!r8) = true
   ·
    replace hv := aG hg9 hv
    iterate 3 refine qX (!r8) (by rw [hg9]; decide) ?_
    refine step (v := vb true) (aJ (b := (!r8)) rfl hg9 rfl) ?_
    refine q1 _ ?_
    iterate 3 refine qX true (by decide) ?_
    refine step (v := vb true) (aJ (b := true) rfl rfl rfl) ?_
    have hh := ap hv
    subst hh
    exact nR []
   ·
    replace hv := aH hg9 hv
    obtain ⟨r10, hr10, hv⟩ := aq hv
    refine qG (!r8) (Bool.eq_false_iff.2 hg9) ?_
    refine step (v := vs1 x7) (bS (ds := [.int .i64 x7.Op, .int .i64 x7.F, .int .u16 x7.N, eL (some 4) aC x7.Kids]) rfl rfl (show 4 ≤ 4 by decide) rfl) ?_
    refine qG (!r8) (Bool.eq_false_iff.2 hg9) ?_
    refine a9 (r := .int .i64 r10) (aF aL.nil') (pw hr10) ?_
    refine qG (!r8) (Bool.eq_false_iff.2 hg9) ?_
    refine q1 _ ?_
    refine step (v := vb (decide (r10 > 40))) (aM (b := (!r8)) rfl hg9 rfl) ?_
    refine q1 _ ?_
    by_cases hg11 : decide (r10 > 40) = true
    ·
     replace hv := aG hg11 hv
     iterate 3 refine qX (decide (r10 > 40)) (by rw [hg11]; decide) ?_
     refine step (v := vb true) (aJ (b := decide (r10 > 40)) rfl hg11 rfl) ?_
     have hh := ap hv
     subst hh
     exact nR []
    ·
     replace hv := aH hg11 hv
     obtain ⟨r12, hr12, hv⟩ := aq hv
     refine qG (decide (r10 > 40)) (Bool.eq_false_iff.2 hg11) ?_
     refine step (v := vs1 x7) (bS (ds := [.int .i64 x7.Op, .int .i64 x7.F, .int .u16 x7.N, eL (some 4) aC x7.Kids]) rfl rfl (show 4 ≤ 4 by decide) rfl) ?_
     refine qG (decide (r10 > 40)) (Bool.eq_false_iff.2 hg11) ?_
     refine a9 (r := .int .i64 r12) (aF aL.nil') (py hr12) ?_
     refine qG (decide (r10 > 40)) (Bool.eq_false_iff.2 hg11) ?_
     refine q1 _ ?_
     refine step (v := vb (decide (r12 > 12))) (aM (b := decide (r10 > 40)) rfl hg11 rfl) ?_
     have hh := ap hv
     subst hh
     exact nR []
  by_cases hc15 : y13 = true
  ·
   replace h := aG hc15 h
   refine aT (t := y13) rfl hc15 ?_
   refine ak ⟨tab [(2, vb false)], ac [], 0⟩ ?_ ?_
   ·
    refine q1 _ ?_
    exact nR []
   obtain ⟨r16, kr16, hr⟩ := c5 (o := some false) (g := Br.ret) h
   subst hr
   have h := kr16
   have hh := ap h
   subst hh
   refine aV ?_
   refine And.intro (fun hn => nomatch hn) ?_
   intro hq
   have hq := hq.symm
   subst hq
   show FQ _ _ _ _
   exact bh (.inr rfl) (bn (v := vb false) rfl rfl) (RV.d trivial)
  ·
   replace h := aH hc15 h
   refine aS (t := y13) rfl hc15 ?_
   refine bm ?_
   have hh := ap h
   subst hh
   refine bN ⟨tab [(5, aE a0), (6, vi (a0.length : Int)), (7, vi (i1 + 1))], ac [], 0⟩ ?_ ?_
   ·
    refine step (v := vi (i1 + 1)) (cM (cN hinv4 hgo3 hB2) rfl rfl) ?_
    refine q1 _ ?_
    exact nR []
   exact And.intro rfl rfl
 ·
  rintro i1 ⟨⟩ hinv4 hgo3
  show aP _ _ _ _ _ ⟨tab [(5, aE a0), (6, vi (a0.length : Int)), (7, vi i1)], ac [], 0⟩
  have hc5 : ¬ (decide (i1 < (a0.length : Int)) = true) := fun hq => hgo3 (of_decide_eq_true hq)
  refine ak ⟨tab [(5, aE a0), (6, vi (a0.length : Int)), (7, vi i1), (8, vb (decide (i1 < (a0.length : Int))))], ac [], 0⟩ ?_ ?_
  ·
   refine q1 _ ?_
   exact nR []
  refine aN ?_
  refine aS (t := decide (i1 < (a0.length : Int))) rfl hc5 ?_
  refine aX (s0 := ⟨tab [], ac [], 0⟩) (nr []) ?_
  refine cz ?_
  exact And.intro rfl rfl
 ·
  intro r' hq
  subst hq
  exact ap h
 rintro ⟨⟩ rfl
 refine ak ⟨tab [(2, vb true)], ac [], 0⟩ ?_ ?_
 ·
  refine q1 _ ?_
  exact nR []
 have hh := ap h
 subst hh
 refine aV ?_
 show FQ _ _ _ _
 exact bh (.inr rfl) (bn (v := vb true) rfl rfl) (RV.d trivial)
theorem fe {a0 : aj} {r : aj} (h : gq a0 = some r) : PCall Try.prog 23 [bo a0] (bo r) := by
 refine PCall.introN vd (show 1 ≤ 6 by decide) ?_
 refine aX (s0 := ⟨tab [(0, vs1 a0)], ac [], 0⟩) (nr []) ?_
 refine ak ⟨tab [(1, aI a0), (2, .ptr 0 0 0)], ac [(0, bk)], 1⟩ ?_ ?_
 ·
  refine q1 _ ?_
  refine step (v := .ptr 0 0 0) (σ' := (al (ac []) 0 (some (bk)))) (n' := 1) rfl ?_
  exact nR [0]
 refine ak ⟨tab [(2, .ptr 0 0 0)], ac [(0, .var [vi 4, vi 0, vh 0, aE ([a0] : List aj)])], 1⟩ ?_ ?_
 ·
  refine q1 _ ?_
  refine step (v := aE ([a0] : List aj)) (cE rfl (by simp [eL, bP])) ?_
  refine step (v := vs1 (aj.mk 4 0 0 ([a0] : List aj))) (dj (ds := [.int .i64 4, .int .i64 0, .int .u16 0, eL (some 4) aC ([a0] : List aj)]) rfl) ?_
  refine step (v := V.undef) (σ' := (al (ac [(0, bk)]) 0 (some (.var [vi 4, vi 0, vh 0, aE ([a0] : List aj)])))) (n' := 1) rfl ?_
  exact nR [0]
 have hh := ap h
 subst hh
 refine aV ?_
 show FQ _ _ _ _
 exact bh (.inr rfl) (gl (ds := [.int .i64 4, .int .i64 0, .int .u16 0, eL (some 4) aC ([a0] : List aj)]) rfl rfl (show 4 ≤ 4 by decide) rfl rfl) (RV.d trivial)
theorem v9 {a0 : (List (A8 Int))} {a1 : (List (A8 Int))} {r : Bool} (h : j0 a0 a1 = some r) : PCall Try.prog 16 [eL (some 8) (eA8 (D.int .u16)) a0, eL (some 8) (eA8 (D.int .u16)) a1] (.bool r) := by
 refine PCall.introN vg (show 2 ≤ 26 by decide) ?_
 refine aX (s0 := ⟨tab [(0, .d (eL (some 8) (eA8 (D.int .u16)) a0)), (1, .d (eL (some 8) (eA8 (D.int .u16)) a1))], ac [], 0⟩) (nr []) ?_
 refine ak ⟨tab [(0, .d (eL (some 8) (eA8 (D.int .u16)) a0)), (1, .d (eL (some 8) (eA8 (D.int .u16)) a1))], ac [], 0⟩ ?_ ?_
 ·
  refine q1 _ ?_
  exact nR []
 refine aN ?_
 refine ak ⟨tab [(0, .d (eL (some 8) (eA8 (D.int .u16)) a0)), (1, .d (eL (some 8) (eA8 (D.int .u16)) a1)), (10, vb ((a0.length : Int) != (a1.length : Int)))], ac [], 0⟩ ?_ ?_
 ·
  refine q1 _ ?_
  refine step (v := vi (a0.length : Int)) (bI (xs := a0) (e := (eA8 (D.int .u16))) rfl) ?_
  refine q1 _ ?_
  refine step (v := vi (a1.length : Int)) (bI (xs := a1) (e := (eA8 (D.int .u16))) rfl) ?_
  refine q1 _ ?_
  exact nR []
 by_cases hc1 : ((a0.length : Int) != (a1.length : Int)) = true
 ·
  replace h := aG hc1 h
  refine aT (t := ((a0.length : Int) != (a1.length : Int))) rfl hc1 ?_
  refine ak ⟨tab [(4, vb false)], ac [], 0⟩ ?_ ?_
  ·
   refine q1 _ ?_
   exact nR []
  have hh := ap h
  subst hh
  refine aV ?_
  show FQ _ _ _ _
  exact bh (.inr rfl) (bn (v := vb false) rfl rfl) (RV.d trivial)
 ·
  replace h := aH hc1 h
  refine aS (t := ((a0.length : Int) != (a1.length : Int))) rfl hc1 ?_
  refine bm ?_
  refine aN ?_
  refine ak ⟨tab [(0, .d (eL (some 8) (eA8 (D.int .u16)) a0)), (1, .d (eL (some 8) (eA8 (D.int .u16)) a1)), (5, vi 0)], ac [], 0⟩ ?_ ?_
  ·
   refine q1 _ ?_
   exact nR []
  obtain ⟨q11, hl, h⟩ := aq h
  refine bE ?_
  refine ey (cK (a0.length : Int)) (fun (i2 : Int) (qq : Unit) => ⟨tab [(0, .d (eL (some 8) (eA8 (D.int .u16)) a0)), (1, .d (eL (some 8) (eA8 (D.int .u16)) a1)), (5, vi i2)], ac [], 0⟩) 0 (fun (qq : Unit) => ⟨tab [], ac [], 0⟩) bJ cL (r := r) hl (by unfold bJ; omega) ?_ ?_ ?_ ?_
  ·
   rintro i2 ⟨⟩ xr7 hinv5 hgo4 h
   show aP _ _ _ _ _ ⟨tab [(0, .d (eL (some 8) (eA8 (D.int .u16)) a0)), (1, .d (eL (some 8) (eA8 (D.int .u16)) a1)), (5, vi i2)], ac [], 0⟩
   have hc6 : decide (i2 < (a0.length : Int)) = true := decide_eq_true hgo4
   refine aN ?_
   refine ak ⟨tab [(0, .d (eL (some 8) (eA8 (D.int .u16)) a0)), (1, .d (eL (some 8) (eA8 (D.int .u16)) a1)), (5, vi i2), (13, vi (a0.length : Int)), (14, vb (decide (i2 < (a0.length : Int))))], ac [], 0⟩ ?_ ?_
   ·
    iterate 2 refine q1 _ ?_
    refine step (v := vi (a0.length : Int)) (bI (xs := a0) (e := (eA8 (D.int .u16))) rfl) ?_
    refine q1 _ ?_
    exact nR []
   refine cJ 13 rfl fun hB3 => ?_
   refine aT (t := decide (i2 < (a0.length : Int))) rfl hc6 ?_
   refine bm ?_
   refine aN ?_
   refine bE ?_
   obtain ⟨x8, hx8, h⟩ := aq h
   obtain ⟨x9, hx9, h⟩ := aq h
   refine ak ⟨tab [(0, .d (eL (some 8) (eA8 (D.int .u16)) a0)), (1, .d (eL (some 8) (eA8 (D.int .u16)) a1)), (5, vi i2), (25, vb (!(x8 == x9)))], ac [], 0⟩ ?_ ?_
   ·
    iterate 2 refine q1 _ ?_
    refine step (v := .d (.cptr (some 8) (eA8 (D.int .u16) x8) 0)) (cZ (xs := a0) (e := (eA8 (D.int .u16))) hx8 rfl rfl) ?_
    iterate 3 refine q1 _ ?_
    refine step (v := .d (.cptr (some 8) (eA8 (D.int .u16) x9) 0)) (cZ (xs := a1) (e := (eA8 (D.int .u16))) hx9 rfl rfl) ?_
    refine q1 _ ?_
    refine step (v := vb (!(x8 == x9))) (k8 (neg := true) rfl rfl (mb x8 x9)) ?_
    exact nR []
   by_cases hc10 : (!(x8 == x9)) = true
   ·
    replace h := aG hc10 h
    refine aT (t := (!(x8 == x9))) rfl hc10 ?_
    refine ak ⟨tab [(4, vb false)], ac [], 0⟩ ?_ ?_
    ·
     refine q1 _ ?_
     exact nR []
    obtain ⟨r11, kr11, hr⟩ := c5 (o := some false) (g := Br.ret) h
    subst hr
    have h := kr11
    have hh := ap h
    subst hh
    refine aV ?_
    refine And.intro (fun hn => nomatch hn) ?_
    intro hq
    have hq := hq.symm
    subst hq
    show FQ _ _ _ _
    exact bh (.inr rfl) (bn (v := vb false) rfl rfl) (RV.d trivial)
   ·
    replace h := aH hc10 h
    refine aS (t := (!(x8 == x9))) rfl hc10 ?_
    refine bm ?_
    have hh := ap h
    subst hh
    refine bN ⟨tab [(0, .d (eL (some 8) (eA8 (D.int .u16)) a0)), (1, .d (eL (some 8) (eA8 (D.int .u16)) a1)), (5, vi (i2 + 1))], ac [], 0⟩ ?_ ?_
    ·
     refine q1 _ ?_
     refine step (v := vi (i2 + 1)) (cM (cN hinv5 hgo4 hB3) rfl rfl) ?_
     refine q1 _ ?_
     exact nR []
    exact And.intro rfl rfl
  ·
   rintro i2 ⟨⟩ hinv5 hgo4
   show aP _ _ _ _ _ ⟨tab [(0, .d (eL (some 8) (eA8 (D.int .u16)) a0)), (1, .d (eL (some 8) (eA8 (D.int .u16)) a1)), (5, vi i2)], ac [], 0⟩
   have hc6 : ¬ (decide (i2 < (a0.length : Int)) = true) := fun hq => hgo4 (of_decide_eq_true hq)
   refine aN ?_
   refine ak ⟨tab [(0, .d (eL (some 8) (eA8 (D.int .u16)) a0)), (1, .d (eL (some 8) (eA8 (D.int .u16)) a1)), (5, vi i2), (14, vb (decide (i2 < (a0.length : Int))))], ac [], 0⟩ ?_ ?_
   ·
    iterate 2 refine q1 _ ?_
    refine step (v := vi (a0.length : Int)) (bI (xs := a0) (e := (eA8 (D.int .u16))) rfl) ?_
    refine q1 _ ?_
    exact nR []
   refine aS (t := decide (i2 < (a0.length : Int))) rfl hc6 ?_
   refine aX (s0 := ⟨tab [], ac [], 0⟩) (nr []) ?_
   refine cz ?_
   exact And.intro rfl rfl
  ·
   intro r' hq
   subst hq
   exact ap h
  rintro ⟨⟩ rfl
  refine ak ⟨tab [(4, vb true)], ac [], 0⟩ ?_ ?_
  ·
   refine q1 _ ?_
   exact nR []
  have hh := ap h
  subst hh
  refine aV ?_
  show FQ _ _ _ _
  exact bh (.inr rfl) (bn (v := vb true) rfl rfl) (RV.d trivial)
theorem hZ {a0 : (List Int)} {a1 : (A8 Int)} {a2 : (List aj)} {r : Bool} (h : eJ a0 a1 a2 = some r) : PCall Try.prog 19 [eL none (D.int .u16) a0, eA8 (D.int .u16) a1, eL (some 4) aC a2] (.bool r) := by
 refine PCall.introN vm (show 3 ≤ 42 by decide) ?_
 refine aX (s0 := ⟨tab [(0, bp a0), (1, .d (eA8 (D.int .u16) a1)), (2, aE a2)], ac [], 0⟩) (nr []) ?_
 refine ak ⟨tab [(0, bp a0), (2, aE a2), (4, .d (.cptr (some 8) (eA8 (D.int .u16) a1) 0))], ac [], 0⟩ ?_ ?_
 ·
  iterate 2 refine q1 _ ?_
  exact nR []
 refine ak ⟨tab [(0, bp a0), (2, aE a2), (4, .d (.cptr (some 8) (eA8 (D.int .u16) a1) 0)), (7, .d (eL (some 8) (eA8 (D.int .u16)) ([] : List (A8 Int))))], ac [], 0⟩ ?_ ?_
 ·
  refine q1 _ ?_
  exact nR []
 refine aN ?_
 refine ak ⟨tab [(0, bp a0), (4, .d (.cptr (some 8) (eA8 (D.int .u16) a1) 0)), (7, .d (eL (some 8) (eA8 (D.int .u16)) ([] : List (A8 Int)))), (12, aE a2), (13, vi (a2.length : Int)), (14, vi 0)], ac [], 0⟩ ?_ ?_
 ·
  refine q1 _ ?_
  refine step (v := vi (a2.length : Int)) (bI (xs := a2) (e := aC) rfl) ?_
  refine q1 _ ?_
  exact nR []
 obtain ⟨q18, hl, h⟩ := aq h
 refine bE ?_
 refine ey (cK (a2.length : Int)) (fun (i2 : Int) (qq : (List (A8 Int))) => ⟨tab [(0, bp a0), (4, .d (.cptr (some 8) (eA8 (D.int .u16) a1) 0)), (7, .d (eL (some 8) (eA8 (D.int .u16)) qq)), (12, aE a2), (13, vi (a2.length : Int)), (14, vi i2)], ac [], 0⟩) 0 (fun (qq : (List (A8 Int))) => ⟨tab [], ac [], 0⟩) bJ cL (r := r) hl (by unfold bJ; omega) ?_ ?_ ?_ ?_
 ·
  rintro i2 y1 xr7 hinv5 hgo4 h
  show aP _ _ _ _ _ ⟨tab [(0, bp a0), (4, .d (.cptr (some 8) (eA8 (D.int .u16) a1) 0)), (7, .d (eL (some 8) (eA8 (D.int .u16)) y1)), (12, aE a2), (13, vi (a2.length : Int)), (14, vi i2)], ac [], 0⟩
  have hc6 : decide (i2 < (a2.length : Int)) = true := decide_eq_true hgo4
  refine ak ⟨tab [(0, bp a0), (4, .d (.cptr (some 8) (eA8 (D.int .u16) a1) 0)), (7, .d (eL (some 8) (eA8 (D.int .u16)) y1)), (12, aE a2), (13, vi (a2.length : Int)), (14, vi i2), (15, vb (decide (i2 < (a2.length : Int))))], ac [], 0⟩ ?_ ?_
  ·
   refine q1 _ ?_
   exact nR []
  refine cJ 13 rfl fun hB3 => ?_
  refine aN ?_
  refine aT (t := decide (i2 < (a2.length : Int))) rfl hc6 ?_
  refine bm ?_
  refine aN ?_
  refine bE ?_
  obtain ⟨x8, hx8, h⟩ := aq h
  refine ak ⟨tab [(0, bp a0), (4, .d (.cptr (some 8) (eA8 (D.int .u16) a1) 0)), (7, .d (eL (some 8) (eA8 (D.int .u16)) y1)), (8, vi i2), (9, .ptr 0 0 0), (12, aE a2), (13, vi (a2.length : Int)), (14, vi i2)], ac [(0, bY x8)], 1⟩ ?_ ?_
  ·
   refine q1 _ ?_
   refine step (v := aI x8) (dq (xs := a2) (e := aC) hx8 rfl rfl (bP _)) ?_
   refine q1 _ ?_
   refine step (v := .ptr 0 0 0) (σ' := (al (ac []) 0 (some (bk)))) (n' := 1) rfl ?_
   refine q1 _ ?_
   refine step (v := V.undef) (σ' := (al (al (ac []) 0 (some (bk))) 0 (some (bY x8)))) (n' := 1) rfl ?_
   exact nR [0]
  obtain ⟨r9, hr9, h⟩ := aq h
  refine ak ⟨tab [(0, bp a0), (4, .d (.cptr (some 8) (eA8 (D.int .u16) a1) 0)), (7, .d (eL (some 8) (eA8 (D.int .u16)) y1)), (8, vi i2), (10, .d (eL (some 8) (eA8 (D.int .u16)) r9.1)), (11, vi r9.2), (12, aE a2), (13, vi (a2.length : Int)), (14, vi i2)], ac [], 0⟩ ?_ ?_
  ·
   refine step (v := vs1 x8) (bS (ds := [.int .i64 x8.Op, .int .i64 x8.F, .int .u16 x8.N, eL (some 4) aC x8.Kids]) rfl rfl (show 4 ≤ 4 by decide) rfl) ?_
   iterate 2 refine q1 _ ?_
   refine a9 (r := .tup [eL (some 8) (eA8 (D.int .u16)) r9.1, .int .i64 r9.2]) (aF (aF (aF aL.nil'))) (kc hr9) ?_
   iterate 5 refine q1 _ ?_
   exact nR []
  refine aN ?_
  refine ak ⟨tab [(0, bp a0), (4, .d (.cptr (some 8) (eA8 (D.int .u16) a1) 0)), (7, .d (eL (some 8) (eA8 (D.int .u16)) y1)), (8, vi i2), (10, .d (eL (some 8) (eA8 (D.int .u16)) r9.1)), (11, vi r9.2), (12, aE a2), (13, vi (a2.length : Int)), (14, vi i2), (27, vb (r9.2 == 24))], ac [], 0⟩ ?_ ?_
  ·
   iterate 2 refine q1 _ ?_
   exact nR []
  by_cases hc10 : (r9.2 == 24) = true
  ·
   replace h := aG hc10 h
   refine aT (t := (r9.2 == 24)) rfl hc10 ?_
   refine ak ⟨tab [(6, vb true)], ac [], 0⟩ ?_ ?_
   ·
    refine q1 _ ?_
    exact nR []
   obtain ⟨r11, kr11, hr⟩ := c5 (o := some true) (g := Br.ret) h
   subst hr
   have h := kr11
   have hh := ap h
   subst hh
   refine aV ?_
   refine And.intro (fun hn => nomatch hn) ?_
   intro hq
   have hq := hq.symm
   subst hq
   show FQ _ _ _ _
   exact bh (.inr rfl) (bn (v := vb true) rfl rfl) (RV.d trivial)
  ·
   replace h := aH hc10 h
   refine aS (t := (r9.2 == 24)) rfl hc10 ?_
   refine bm ?_
   refine aN ?_
   obtain ⟨y14, hv, h⟩ := aq h
   refine ak ⟨tab [(0, bp a0), (4, .d (.cptr (some 8) (eA8 (D.int .u16) a1) 0)), (10, .d (eL (some 8) (eA8 (D.int .u16)) r9.1)), (12, aE a2), (13, vi (a2.length : Int)), (14, vi i2), (39, vb y14)], ac [], 0⟩ ?_ ?_
   ·
    iterate 3 refine q1 _ ?_
    by_cases hg11 : (r9.2 != 0) = true
    ·
     replace hv := aG hg11 hv
     iterate 3 refine qX (r9.2 != 0) (by rw [hg11]; decide) ?_
     refine bM rfl ?_
     refine bM rfl ?_
     refine bM rfl ?_
     refine bM rfl ?_
     refine qX (r9.2 != 0) (by rw [hg11]; decide) ?_
     refine step (v := vb true) (aJ (b := (r9.2 != 0)) rfl hg11 rfl) ?_
     have hh := ap hv
     subst hh
     exact nR []
    ·
     replace hv := aH hg11 hv
     refine qG (r9.2 != 0) (Bool.eq_false_iff.2 hg11) ?_
     refine q1 _ ?_
     refine qG (r9.2 != 0) (Bool.eq_false_iff.2 hg11) ?_
     refine q1 _ ?_
     refine qG (r9.2 != 0) (Bool.eq_false_iff.2 hg11) ?_
     refine q1 _ ?_
     by_cases hg12 : decide (i2 > 0) = true
     ·
      replace hv := aG hg12 hv
      obtain ⟨r13, hr13, hv⟩ := aq hv
      refine qG _ hg12 ?_
      refine q1 _ ?_
      refine qG _ hg12 ?_
      refine q1 _ ?_
      refine qG _ hg12 ?_
      refine a9 (r := .bool r13) (aF (aF aL.nil')) (v9 hr13) ?_
      refine qG _ hg12 ?_
      refine q1 _ ?_
      refine qG (r9.2 != 0) (Bool.eq_false_iff.2 hg11) ?_
      refine step (v := vb (!r13)) (aJ (b := decide (i2 > 0)) rfl hg12 rfl) ?_
      refine step (v := vb (!r13)) (aM (b := (r9.2 != 0)) rfl hg11 rfl) ?_
      have hh := ap hv
      subst hh
      exact nR []
     ·
      replace hv := aH hg12 hv
      iterate 4 refine qX _ hg12 ?_
      refine qG (r9.2 != 0) (Bool.eq_false_iff.2 hg11) ?_
      refine step (v := vb false) (aM (b := decide (i2 > 0)) rfl hg12 rfl) ?_
      refine step (v := vb false) (aM (b := (r9.2 != 0)) rfl hg11 rfl) ?_
      have hh := ap hv
      subst hh
      exact nR []
   by_cases hc16 : y14 = true
   ·
    replace h := aG hc16 h
    refine aT (t := y14) rfl hc16 ?_
    refine ak ⟨tab [(6, vb false)], ac [], 0⟩ ?_ ?_
    ·
     refine q1 _ ?_
     exact nR []
    obtain ⟨r17, kr17, hr⟩ := c5 (o := some false) (g := Br.ret) h
    subst hr
    have h := kr17
    have hh := ap h
    subst hh
    refine aV ?_
    refine And.intro (fun hn => nomatch hn) ?_
    intro hq
    have hq := hq.symm
    subst hq
    show FQ _ _ _ _
    exact bh (.inr rfl) (bn (v := vb false) rfl rfl) (RV.d trivial)
   ·
    replace h := aH hc16 h
    refine aS (t := y14) rfl hc16 ?_
    refine bm ?_
    refine bN ⟨tab [(0, bp a0), (4, .d (.cptr (some 8) (eA8 (D.int .u16) a1) 0)), (7, .d (eL (some 8) (eA8 (D.int .u16)) r9.1)), (12, aE a2), (13, vi (a2.length : Int)), (14, vi i2)], ac [], 0⟩ ?_ ?_
    ·
     iterate 2 refine q1 _ ?_
     exact nR []
    have hh := ap h
    subst hh
    refine bN ⟨tab [(0, bp a0), (4, .d (.cptr (some 8) (eA8 (D.int .u16) a1) 0)), (7, .d (eL (some 8) (eA8 (D.int .u16)) r9.1)), (12, aE a2), (13, vi (a2.length : Int)), (14, vi (i2 + 1))], ac [], 0⟩ ?_ ?_
    ·
     refine step (v := vi (i2 + 1)) (cM (cN hinv5 hgo4 hB3) rfl rfl) ?_
     refine q1 _ ?_
     exact nR []
    exact And.intro rfl rfl
 ·
  rintro i2 y1 hinv5 hgo4
  show aP _ _ _ _ _ ⟨tab [(0, bp a0), (4, .d (.cptr (some 8) (eA8 (D.int .u16) a1) 0)), (7, .d (eL (some 8) (eA8 (D.int .u16)) y1)), (12, aE a2), (13, vi (a2.length : Int)), (14, vi i2)], ac [], 0⟩
  have hc6 : ¬ (decide (i2 < (a2.length : Int)) = true) := fun hq => hgo4 (of_decide_eq_true hq)
  refine ak ⟨tab [(0, bp a0), (4, .d (.cptr (some 8) (eA8 (D.int .u16) a1) 0)), (7, .d (eL (some 8) (eA8 (D.int .u16)) y1)), (12, aE a2), (13, vi (a2.length : Int)), (14, vi i2), (15, vb (decide (i2 < (a2.length : Int))))], ac [], 0⟩ ?_ ?_
  ·
   refine q1 _ ?_
   exact nR []
  refine aN ?_
  refine aS (t := decide (i2 < (a2.length : Int))) rfl hc6 ?_
  refine aX (s0 := ⟨tab [], ac [], 0⟩) (nr []) ?_
  refine cz ?_
  exact And.intro rfl rfl
 ·
  intro r' hq
  subst hq
  exact ap h
 rintro z17 rfl
 refine ak ⟨tab [(6, vb true)], ac [], 0⟩ ?_ ?_
 ·
  refine q1 _ ?_
  exact nR []
 have hh := ap h
 subst hh
 refine aV ?_
 show FQ _ _ _ _
 exact bh (.inr rfl) (bn (v := vb true) rfl rfl) (RV.d trivial)
theorem c_law07_PolicyNots {a0 : (A2 (List law05_Step))} {a1 : (List Int)} {a2 : (A8 Int)} {r : Bool} (h : law07_PolicyNots a0 a1 a2 = some r) : PCall Try.prog 5 [eA2 (eL (some 4) elaw05_Step) a0, eL none (D.int .u16) a1, eA8 (D.int .u16) a2] (.bool r) := by
 refine PCall.introN vn (show 3 ≤ 141 by decide) ?_
 refine aX (s0 := ⟨tab [(0, .d (eA2 (eL (some 4) elaw05_Step) a0)), (1, bp a1), (2, .d (eA8 (D.int .u16) a2))], ac [], 0⟩) (nr []) ?_
 refine ak ⟨tab [(1, bp a1), (3, .d (.cptr (some 2) (eA2 (eL (some 4) elaw05_Step) a0) 0)), (5, .d (.cptr (some 8) (eA8 (D.int .u16) a2) 0))], ac [], 0⟩ ?_ ?_
 ·
  iterate 3 refine q1 _ ?_
  exact nR []
 refine aN ?_
 obtain ⟨r1, hr1, h⟩ := aq h
 refine ak ⟨tab [(1, bp a1), (3, .d (.cptr (some 2) (eA2 (eL (some 4) elaw05_Step) a0) 0)), (5, .d (.cptr (some 8) (eA8 (D.int .u16) a2) 0)), (14, vb (!r1))], ac [], 0⟩ ?_ ?_
 ·
  refine a9 (r := .bool r1) aL.nil' (vU hr1) ?_
  refine q1 _ ?_
  exact nR []
 by_cases hc2 : (!r1) = true
 ·
  replace h := aG hc2 h
  refine aT (t := (!r1)) rfl hc2 ?_
  refine ak ⟨tab [(6, vb false)], ac [], 0⟩ ?_ ?_
  ·
   refine q1 _ ?_
   exact nR []
  have hh := ap h
  subst hh
  refine aV ?_
  show FQ _ _ _ _
  exact bh (.inr rfl) (bn (v := vb false) rfl rfl) (RV.d trivial)
 ·
  replace h := aH hc2 h
  refine aS (t := (!r1)) rfl hc2 ?_
  refine bm ?_
  obtain ⟨r3, hr3, h⟩ := aq h
  refine ak ⟨tab [(1, bp a1), (3, .d (.cptr (some 2) (eA2 (eL (some 4) elaw05_Step) a0) 0)), (5, .d (.cptr (some 8) (eA8 (D.int .u16) a2) 0)), (7, .ptr 0 0 0), (8, vb r3.2)], ac [(0, .var [vi r3.1.Op, vi r3.1.F, vh r3.1.N, aE r3.1.Kids])], 1⟩ ?_ ?_
  ·
   iterate 2 refine q1 _ ?_
   refine a9 (r := .tup [bo r3.1, .bool r3.2]) (aF aL.nil') (pu hr3) ?_
   iterate 3 refine q1 _ ?_
   refine step (v := .ptr 0 0 0) (σ' := (al (ac []) 0 (some (bk)))) (n' := 1) rfl ?_
   refine step (v := V.undef) (σ' := (al (al (ac []) 0 (some (bk))) 0 (some (.var [vi r3.1.Op, vi r3.1.F, vh r3.1.N, aE r3.1.Kids])))) (n' := 1) rfl ?_
   refine q1 _ ?_
   exact nR [0]
  obtain ⟨r4, hr4, h⟩ := aq h
  refine ak ⟨tab [(1, bp a1), (5, .d (.cptr (some 8) (eA8 (D.int .u16) a2) 0)), (7, .ptr 0 0 0), (8, vb r3.2), (9, .ptr 1 0 0), (10, vb r4.2)], ac [(0, .var [vi r3.1.Op, vi r3.1.F, vh r3.1.N, aE r3.1.Kids]), (1, .var [vi r4.1.Op, vi r4.1.F, vh r4.1.N, aE r4.1.Kids])], 2⟩ ?_ ?_
  ·
   iterate 2 refine q1 _ ?_
   refine a9 (r := .tup [bo r4.1, .bool r4.2]) (aF aL.nil') (pu hr4) ?_
   iterate 3 refine q1 _ ?_
   refine step (v := .ptr 1 0 0) (σ' := (al (ac [(0, .var [vi r3.1.Op, vi r3.1.F, vh r3.1.N, aE r3.1.Kids])]) 1 (some (bk)))) (n' := 2) rfl ?_
   refine step (v := V.undef) (σ' := (al (al (ac [(0, .var [vi r3.1.Op, vi r3.1.F, vh r3.1.N, aE r3.1.Kids])]) 1 (some (bk))) 1 (some (.var [vi r4.1.Op, vi r4.1.F, vh r4.1.N, aE r4.1.Kids])))) (n' := 2) rfl ?_
   refine q1 _ ?_
   exact nR [0, 1]
  refine aN ?_
  obtain ⟨y13, hv, h⟩ := aq h
  refine ak ⟨tab [(1, bp a1), (5, .d (.cptr (some 8) (eA8 (D.int .u16) a2) 0)), (7, .ptr 0 0 0), (9, .ptr 1 0 0), (54, vb y13)], ac [(0, .var [vi r3.1.Op, vi r3.1.F, vh r3.1.N, aE r3.1.Kids]), (1, .var [vi r4.1.Op, vi r4.1.F, vh r4.1.N, aE r4.1.Kids])], 2⟩ ?_ ?_
  ·
   iterate 3 refine q1 _ ?_
   by_cases hg5 : (!r3.2) = true
   ·
    replace hv := aG hg5 hv
    iterate 2 refine qX (!r3.2) (by rw [hg5]; decide) ?_
    refine step (v := vb true) (aJ (b := (!r3.2)) rfl hg5 rfl) ?_
    refine q1 _ ?_
    iterate 5 refine qX true (by decide) ?_
    refine step (v := vb true) (aJ (b := true) rfl rfl rfl) ?_
    refine q1 _ ?_
    iterate 3 refine qX true (by decide) ?_
    refine step (v := vb true) (aJ (b := true) rfl rfl rfl) ?_
    refine q1 _ ?_
    iterate 3 refine qX true (by decide) ?_
    refine step (v := vb true) (aJ (b := true) rfl rfl rfl) ?_
    refine q1 _ ?_
    iterate 3 refine qX true (by decide) ?_
    refine step (v := vb true) (aJ (b := true) rfl rfl rfl) ?_
    have hh := ap hv
    subst hh
    exact nR [0, 1]
   ·
    replace hv := aH hg5 hv
    refine qG (!r3.2) (Bool.eq_false_iff.2 hg5) ?_
    refine q1 _ ?_
    refine qG (!r3.2) (Bool.eq_false_iff.2 hg5) ?_
    refine q1 _ ?_
    refine step (v := vb (!r4.2)) (aM (b := (!r3.2)) rfl hg5 rfl) ?_
    refine q1 _ ?_
    by_cases hg6 : (!r4.2) = true
    ·
     replace hv := aG hg6 hv
     iterate 5 refine qX (!r4.2) (by rw [hg6]; decide) ?_
     refine step (v := vb true) (aJ (b := (!r4.2)) rfl hg6 rfl) ?_
     refine q1 _ ?_
     iterate 3 refine qX true (by decide) ?_
     refine step (v := vb true) (aJ (b := true) rfl rfl rfl) ?_
     refine q1 _ ?_
     iterate 3 refine qX true (by decide) ?_
     refine step (v := vb true) (aJ (b := true) rfl rfl rfl) ?_
     refine q1 _ ?_
     iterate 3 refine qX true (by decide) ?_
     refine step (v := vb true) (aJ (b := true) rfl rfl rfl) ?_
     have hh := ap hv
     subst hh
     exact nR [0, 1]
    ·
     replace hv := aH hg6 hv
     obtain ⟨r7, hr7, hv⟩ := aq hv
     refine qG (!r4.2) (Bool.eq_false_iff.2 hg6) ?_
     refine step (v := vs1 r3.1) (bS (ds := [.int .i64 r3.1.Op, .int .i64 r3.1.F, .int .u16 r3.1.N, eL (some 4) aC r3.1.Kids]) rfl rfl (show 4 ≤ 4 by decide) rfl) ?_
     refine qG (!r4.2) (Bool.eq_false_iff.2 hg6) ?_
     refine step (v := vs1 r4.1) (bS (ds := [.int .i64 r4.1.Op, .int .i64 r4.1.F, .int .u16 r4.1.N, eL (some 4) aC r4.1.Kids]) rfl rfl (show 4 ≤ 4 by decide) rfl) ?_
     refine qG (!r4.2) (Bool.eq_false_iff.2 hg6) ?_
     refine step (v := aE ([r3.1, r4.1] : List aj)) (cE rfl (by simp [eL, bP])) ?_
     refine qG (!r4.2) (Bool.eq_false_iff.2 hg6) ?_
     refine a9 (r := .bool r7) (aF aL.nil') (v7 hr7) ?_
     refine qG (!r4.2) (Bool.eq_false_iff.2 hg6) ?_
     refine q1 _ ?_
     refine step (v := vb (!r7)) (aM (b := (!r4.2)) rfl hg6 rfl) ?_
     refine q1 _ ?_
     by_cases hg8 : (!r7) = true
     ·
      replace hv := aG hg8 hv
      iterate 3 refine qX (!r7) (by rw [hg8]; decide) ?_
      refine step (v := vb true) (aJ (b := (!r7)) rfl hg8 rfl) ?_
      refine q1 _ ?_
      iterate 3 refine qX true (by decide) ?_
      refine step (v := vb true) (aJ (b := true) rfl rfl rfl) ?_
      refine q1 _ ?_
      iterate 3 refine qX true (by decide) ?_
      refine step (v := vb true) (aJ (b := true) rfl rfl rfl) ?_
      have hh := ap hv
      subst hh
      exact nR [0, 1]
     ·
      replace hv := aH hg8 hv
      obtain ⟨r9, hr9, hv⟩ := aq hv
      refine qG (!r7) (Bool.eq_false_iff.2 hg8) ?_
      refine step (v := vs1 r3.1) (bS (ds := [.int .i64 r3.1.Op, .int .i64 r3.1.F, .int .u16 r3.1.N, eL (some 4) aC r3.1.Kids]) rfl rfl (show 4 ≤ 4 by decide) rfl) ?_
      refine qG (!r7) (Bool.eq_false_iff.2 hg8) ?_
      refine a9 (r := .bool r9) (aF aL.nil') (me hr9) ?_
      refine qG (!r7) (Bool.eq_false_iff.2 hg8) ?_
      refine q1 _ ?_
      refine step (v := vb (!r9)) (aM (b := (!r7)) rfl hg8 rfl) ?_
      refine q1 _ ?_
      by_cases hg10 : (!r9) = true
      ·
       replace hv := aG hg10 hv
       iterate 3 refine qX (!r9) (by rw [hg10]; decide) ?_
       refine step (v := vb true) (aJ (b := (!r9)) rfl hg10 rfl) ?_
       refine q1 _ ?_
       iterate 3 refine qX true (by decide) ?_
       refine step (v := vb true) (aJ (b := true) rfl rfl rfl) ?_
       have hh := ap hv
       subst hh
       exact nR [0, 1]
      ·
       replace hv := aH hg10 hv
       obtain ⟨r11, hr11, hv⟩ := aq hv
       refine qG (!r9) (Bool.eq_false_iff.2 hg10) ?_
       refine step (v := vs1 r4.1) (bS (ds := [.int .i64 r4.1.Op, .int .i64 r4.1.F, .int .u16 r4.1.N, eL (some 4) aC r4.1.Kids]) rfl rfl (show 4 ≤ 4 by decide) rfl) ?_
       refine qG (!r9) (Bool.eq_false_iff.2 hg10) ?_
       refine a9 (r := .bool r11) (aF aL.nil') (me hr11) ?_
       refine qG (!r9) (Bool.eq_false_iff.2 hg10) ?_
       refine q1 _ ?_
       refine step (v := vb (!r11)) (aM (b := (!r9)) rfl hg10 rfl) ?_
       refine q1 _ ?_
       by_cases hg12 : (!r11) = true
       ·
        replace hv := aG hg12 hv
        iterate 3 refine qX (!r11) (by rw [hg12]; decide) ?_
        refine step (v := vb true) (aJ (b := (!r11)) rfl hg12 rfl) ?_
        have hh := ap hv
        subst hh
        exact nR [0, 1]
       ·
        replace hv := aH hg12 hv
        refine qG (!r11) (Bool.eq_false_iff.2 hg12) ?_
        refine q1 _ ?_
        refine qG (!r11) (Bool.eq_false_iff.2 hg12) ?_
        refine step (v := vi (a1.length : Int)) (bI (xs := a1) (e := (D.int .u16)) rfl) ?_
        refine qG (!r11) (Bool.eq_false_iff.2 hg12) ?_
        refine q1 _ ?_
        refine step (v := vb (decide ((a1.length : Int) > 6))) (aM (b := (!r11)) rfl hg12 rfl) ?_
        have hh := ap hv
        subst hh
        exact nR [0, 1]
  by_cases hc15 : y13 = true
  ·
   replace h := aG hc15 h
   refine aT (t := y13) rfl hc15 ?_
   refine ak ⟨tab [(6, vb true)], ac [], 0⟩ ?_ ?_
   ·
    refine q1 _ ?_
    exact nR []
   have hh := ap h
   subst hh
   refine aV ?_
   show FQ _ _ _ _
   exact bh (.inr rfl) (bn (v := vb true) rfl rfl) (RV.d trivial)
  ·
   replace h := aH hc15 h
   refine aS (t := y13) rfl hc15 ?_
   refine bm ?_
   refine ak ⟨tab [(1, bp a1), (5, .d (.cptr (some 8) (eA8 (D.int .u16) a2) 0)), (7, .ptr 0 0 0), (9, .ptr 1 0 0), (11, .ptr 2 0 0), (12, .ptr 3 0 0)], ac [(0, .var [vi r3.1.Op, vi r3.1.F, vh r3.1.N, aE r3.1.Kids]), (1, .var [vi r4.1.Op, vi r4.1.F, vh r4.1.N, aE r4.1.Kids]), (2, .var [vi 1, vi 0, vh 0, aE []]), (3, bk)], 4⟩ ?_ ?_
   ·
    refine step (v := vs1 (aj.mk 1 0 0 [])) (dj (ds := [.int .i64 1, .int .i64 0, .int .u16 0, eL (some 4) aC []]) rfl) ?_
    refine step (v := vs1 (aj.mk 0 0 0 [])) (dj (ds := [.int .i64 0, .int .i64 0, .int .u16 0, eL (some 4) aC []]) rfl) ?_
    refine step (v := .ptr 2 0 0) (σ' := (al (ac [(0, .var [vi r3.1.Op, vi r3.1.F, vh r3.1.N, aE r3.1.Kids]), (1, .var [vi r4.1.Op, vi r4.1.F, vh r4.1.N, aE r4.1.Kids])]) 2 (some (bk)))) (n' := 3) rfl ?_
    refine step (v := .ptr 3 0 0) (σ' := (al (al (ac [(0, .var [vi r3.1.Op, vi r3.1.F, vh r3.1.N, aE r3.1.Kids]), (1, .var [vi r4.1.Op, vi r4.1.F, vh r4.1.N, aE r4.1.Kids])]) 2 (some (bk))) 3 (some (bk)))) (n' := 4) rfl ?_
    refine step (v := V.undef) (σ' := (al (al (al (ac [(0, .var [vi r3.1.Op, vi r3.1.F, vh r3.1.N, aE r3.1.Kids]), (1, .var [vi r4.1.Op, vi r4.1.F, vh r4.1.N, aE r4.1.Kids])]) 2 (some (bk))) 3 (some (bk))) 2 (some (.var [vi 1, vi 0, vh 0, aE []])))) (n' := 4) rfl ?_
    refine step (v := V.undef) (σ' := (al (al (al (al (ac [(0, .var [vi r3.1.Op, vi r3.1.F, vh r3.1.N, aE r3.1.Kids]), (1, .var [vi r4.1.Op, vi r4.1.F, vh r4.1.N, aE r4.1.Kids])]) 2 (some (bk))) 3 (some (bk))) 2 (some (.var [vi 1, vi 0, vh 0, aE []]))) 3 (some (bk)))) (n' := 4) rfl ?_
    exact nR [0, 1, 2, 3]
   obtain ⟨r16, hr16, h⟩ := aq h
   obtain ⟨r17, hr17, h⟩ := aq h
   obtain ⟨r18, hr18, h⟩ := aq h
   obtain ⟨y40, hv, h⟩ := aq h
   refine ak ⟨tab [(6, vb y40)], ac [], 0⟩ ?_ ?_
   ·
    iterate 2 refine q1 _ ?_
    refine step (v := vs1 r3.1) (bS (ds := [.int .i64 r3.1.Op, .int .i64 r3.1.F, .int .u16 r3.1.N, eL (some 4) aC r3.1.Kids]) rfl rfl (show 4 ≤ 4 by decide) rfl) ?_
    refine step (v := vs1 r3.1) (bS (ds := [.int .i64 r3.1.Op, .int .i64 r3.1.F, .int .u16 r3.1.N, eL (some 4) aC r3.1.Kids]) rfl rfl (show 4 ≤ 4 by decide) rfl) ?_
    refine a9 (r := bo r16) (aF aL.nil') (fe hr16) ?_
    refine step (v := aE ([r3.1, r16] : List aj)) (cE rfl (by simp [eL, bP])) ?_
    refine a9 (r := bo r17) (aF aL.nil') (ka hr17) ?_
    refine step (v := vs1 (aj.mk 1 0 0 [])) (bS (ds := [.int .i64 1, .int .i64 0, .int .u16 0, eL (some 4) aC []]) rfl rfl (show 4 ≤ 4 by decide) rfl) ?_
    refine step (v := aE ([r17, (aj.mk 1 0 0 [])] : List aj)) (cE rfl (by simp [eL, bP])) ?_
    refine a9 (r := .bool r18) (aF (aF (aF aL.nil'))) (hZ hr18) ?_
    refine q1 _ ?_
    by_cases hg19 : r18 = true
    ·
     replace hv := aG hg19 hv
     obtain ⟨r20, hr20, hv⟩ := aq hv
     obtain ⟨r21, hr21, hv⟩ := aq hv
     refine qG _ hg19 ?_
     refine q1 _ ?_
     refine qG _ hg19 ?_
     refine q1 _ ?_
     refine qG _ hg19 ?_
     refine step (v := vs1 r3.1) (bS (ds := [.int .i64 r3.1.Op, .int .i64 r3.1.F, .int .u16 r3.1.N, eL (some 4) aC r3.1.Kids]) rfl rfl (show 4 ≤ 4 by decide) rfl) ?_
     refine qG _ hg19 ?_
     refine step (v := vs1 r3.1) (bS (ds := [.int .i64 r3.1.Op, .int .i64 r3.1.F, .int .u16 r3.1.N, eL (some 4) aC r3.1.Kids]) rfl rfl (show 4 ≤ 4 by decide) rfl) ?_
     refine qG _ hg19 ?_
     refine a9 (r := bo r16) (aF aL.nil') (fe hr16) ?_
     refine qG _ hg19 ?_
     refine step (v := aE ([r3.1, r16] : List aj)) (cE rfl (by simp [eL, bP])) ?_
     refine qG _ hg19 ?_
     refine a9 (r := bo r20) (aF aL.nil') (gy hr20) ?_
     refine qG _ hg19 ?_
     refine step (v := vs1 (aj.mk 0 0 0 [])) (bS (ds := [.int .i64 0, .int .i64 0, .int .u16 0, eL (some 4) aC []]) rfl rfl (show 4 ≤ 4 by decide) rfl) ?_
     refine qG _ hg19 ?_
     refine step (v := aE ([r20, (aj.mk 0 0 0 [])] : List aj)) (cE rfl (by simp [eL, bP])) ?_
     refine qG _ hg19 ?_
     refine a9 (r := .bool r21) (aF (aF (aF aL.nil'))) (hZ hr21) ?_
     refine step (v := vb r21) (aJ (b := r18) rfl hg19 rfl) ?_
     refine q1 _ ?_
     by_cases hg22 : r21 = true
     ·
      replace hv := aG hg22 hv
      obtain ⟨r23, hr23, hv⟩ := aq hv
      obtain ⟨r24, hr24, hv⟩ := aq hv
      obtain ⟨r25, hr25, hv⟩ := aq hv
      refine qG _ hg22 ?_
      refine q1 _ ?_
      refine qG _ hg22 ?_
      refine q1 _ ?_
      refine qG _ hg22 ?_
      refine step (v := vs1 r3.1) (bS (ds := [.int .i64 r3.1.Op, .int .i64 r3.1.F, .int .u16 r3.1.N, eL (some 4) aC r3.1.Kids]) rfl rfl (show 4 ≤ 4 by decide) rfl) ?_
      refine qG _ hg22 ?_
      refine a9 (r := bo r16) (aF aL.nil') (fe hr16) ?_
      refine qG _ hg22 ?_
      refine a9 (r := bo r23) (aF aL.nil') (fe hr23) ?_
      refine qG _ hg22 ?_
      refine step (v := vs1 r3.1) (bS (ds := [.int .i64 r3.1.Op, .int .i64 r3.1.F, .int .u16 r3.1.N, eL (some 4) aC r3.1.Kids]) rfl rfl (show 4 ≤ 4 by decide) rfl) ?_
      refine qG _ hg22 ?_
      refine step (v := vs1 r3.1) (bS (ds := [.int .i64 r3.1.Op, .int .i64 r3.1.F, .int .u16 r3.1.N, eL (some 4) aC r3.1.Kids]) rfl rfl (show 4 ≤ 4 by decide) rfl) ?_
      refine qG _ hg22 ?_
      refine step (v := vs1 r3.1) (bS (ds := [.int .i64 r3.1.Op, .int .i64 r3.1.F, .int .u16 r3.1.N, eL (some 4) aC r3.1.Kids]) rfl rfl (show 4 ≤ 4 by decide) rfl) ?_
      refine qG _ hg22 ?_
      refine step (v := aE ([r3.1, r3.1] : List aj)) (cE rfl (by simp [eL, bP])) ?_
      refine qG _ hg22 ?_
      refine a9 (r := bo r24) (aF aL.nil') (gy hr24) ?_
      refine qG _ hg22 ?_
      refine step (v := aE ([r23, r3.1, r24] : List aj)) (cE rfl (by simp [eL, bP])) ?_
      refine qG _ hg22 ?_
      refine a9 (r := .bool r25) (aF (aF (aF aL.nil'))) (hZ hr25) ?_
      refine step (v := vb r25) (aJ (b := r21) rfl hg22 rfl) ?_
      refine q1 _ ?_
      by_cases hg26 : r25 = true
      ·
       replace hv := aG hg26 hv
       obtain ⟨r27, hr27, hv⟩ := aq hv
       obtain ⟨r28, hr28, hv⟩ := aq hv
       obtain ⟨r29, hr29, hv⟩ := aq hv
       obtain ⟨r30, hr30, hv⟩ := aq hv
       obtain ⟨r31, hr31, hv⟩ := aq hv
       refine qG _ hg26 ?_
       refine q1 _ ?_
       refine qG _ hg26 ?_
       refine q1 _ ?_
       refine qG _ hg26 ?_
       refine step (v := vs1 r3.1) (bS (ds := [.int .i64 r3.1.Op, .int .i64 r3.1.F, .int .u16 r3.1.N, eL (some 4) aC r3.1.Kids]) rfl rfl (show 4 ≤ 4 by decide) rfl) ?_
       refine qG _ hg26 ?_
       refine step (v := vs1 r4.1) (bS (ds := [.int .i64 r4.1.Op, .int .i64 r4.1.F, .int .u16 r4.1.N, eL (some 4) aC r4.1.Kids]) rfl rfl (show 4 ≤ 4 by decide) rfl) ?_
       refine qG _ hg26 ?_
       refine step (v := aE ([r3.1, r4.1] : List aj)) (cE rfl (by simp [eL, bP])) ?_
       refine qG _ hg26 ?_
       refine a9 (r := bo r27) (aF aL.nil') (ka hr27) ?_
       refine qG _ hg26 ?_
       refine a9 (r := bo r28) (aF aL.nil') (fe hr28) ?_
       refine qG _ hg26 ?_
       refine step (v := vs1 r3.1) (bS (ds := [.int .i64 r3.1.Op, .int .i64 r3.1.F, .int .u16 r3.1.N, eL (some 4) aC r3.1.Kids]) rfl rfl (show 4 ≤ 4 by decide) rfl) ?_
       refine qG _ hg26 ?_
       refine a9 (r := bo r16) (aF aL.nil') (fe hr16) ?_
       refine qG _ hg26 ?_
       refine step (v := vs1 r4.1) (bS (ds := [.int .i64 r4.1.Op, .int .i64 r4.1.F, .int .u16 r4.1.N, eL (some 4) aC r4.1.Kids]) rfl rfl (show 4 ≤ 4 by decide) rfl) ?_
       refine qG _ hg26 ?_
       refine a9 (r := bo r29) (aF aL.nil') (fe hr29) ?_
       refine qG _ hg26 ?_
       refine step (v := aE ([r16, r29] : List aj)) (cE rfl (by simp [eL, bP])) ?_
       refine qG _ hg26 ?_
       refine a9 (r := bo r30) (aF aL.nil') (gy hr30) ?_
       refine qG _ hg26 ?_
       refine step (v := aE ([r28, r30] : List aj)) (cE rfl (by simp [eL, bP])) ?_
       refine qG _ hg26 ?_
       refine a9 (r := .bool r31) (aF (aF (aF aL.nil'))) (hZ hr31) ?_
       refine step (v := vb r31) (aJ (b := r25) rfl hg26 rfl) ?_
       refine q1 _ ?_
       by_cases hg32 : r31 = true
       ·
        replace hv := aG hg32 hv
        obtain ⟨r33, hr33, hv⟩ := aq hv
        obtain ⟨r34, hr34, hv⟩ := aq hv
        obtain ⟨r35, hr35, hv⟩ := aq hv
        obtain ⟨r36, hr36, hv⟩ := aq hv
        refine qG _ hg32 ?_
        refine q1 _ ?_
        refine qG _ hg32 ?_
        refine q1 _ ?_
        refine qG _ hg32 ?_
        refine step (v := vs1 r3.1) (bS (ds := [.int .i64 r3.1.Op, .int .i64 r3.1.F, .int .u16 r3.1.N, eL (some 4) aC r3.1.Kids]) rfl rfl (show 4 ≤ 4 by decide) rfl) ?_
        refine qG _ hg32 ?_
        refine step (v := vs1 r4.1) (bS (ds := [.int .i64 r4.1.Op, .int .i64 r4.1.F, .int .u16 r4.1.N, eL (some 4) aC r4.1.Kids]) rfl rfl (show 4 ≤ 4 by decide) rfl) ?_
        refine qG _ hg32 ?_
        refine step (v := aE ([r3.1, r4.1] : List aj)) (cE rfl (by simp [eL, bP])) ?_
        refine qG _ hg32 ?_
        refine a9 (r := bo r33) (aF aL.nil') (gy hr33) ?_
        refine qG _ hg32 ?_
        refine a9 (r := bo r34) (aF aL.nil') (fe hr34) ?_
        refine qG _ hg32 ?_
        refine step (v := vs1 r3.1) (bS (ds := [.int .i64 r3.1.Op, .int .i64 r3.1.F, .int .u16 r3.1.N, eL (some 4) aC r3.1.Kids]) rfl rfl (show 4 ≤ 4 by decide) rfl) ?_
        refine qG _ hg32 ?_
        refine a9 (r := bo r16) (aF aL.nil') (fe hr16) ?_
        refine qG _ hg32 ?_
        refine step (v := vs1 r4.1) (bS (ds := [.int .i64 r4.1.Op, .int .i64 r4.1.F, .int .u16 r4.1.N, eL (some 4) aC r4.1.Kids]) rfl rfl (show 4 ≤ 4 by decide) rfl) ?_
        refine qG _ hg32 ?_
        refine a9 (r := bo r29) (aF aL.nil') (fe hr29) ?_
        refine qG _ hg32 ?_
        refine step (v := aE ([r16, r29] : List aj)) (cE rfl (by simp [eL, bP])) ?_
        refine qG _ hg32 ?_
        refine a9 (r := bo r35) (aF aL.nil') (ka hr35) ?_
        refine qG _ hg32 ?_
        refine step (v := aE ([r34, r35] : List aj)) (cE rfl (by simp [eL, bP])) ?_
        refine qG _ hg32 ?_
        refine a9 (r := .bool r36) (aF (aF (aF aL.nil'))) (hZ hr36) ?_
        refine step (v := vb r36) (aJ (b := r31) rfl hg32 rfl) ?_
        refine q1 _ ?_
        by_cases hg37 : r36 = true
        ·
         replace hv := aG hg37 hv
         obtain ⟨r38, hr38, hv⟩ := aq hv
         obtain ⟨r39, hr39, hv⟩ := aq hv
         refine qG _ hg37 ?_
         refine q1 _ ?_
         refine qG _ hg37 ?_
         refine q1 _ ?_
         refine qG _ hg37 ?_
         refine step (v := vs1 r3.1) (bS (ds := [.int .i64 r3.1.Op, .int .i64 r3.1.F, .int .u16 r3.1.N, eL (some 4) aC r3.1.Kids]) rfl rfl (show 4 ≤ 4 by decide) rfl) ?_
         refine qG _ hg37 ?_
         refine step (v := vs1 r4.1) (bS (ds := [.int .i64 r4.1.Op, .int .i64 r4.1.F, .int .u16 r4.1.N, eL (some 4) aC r4.1.Kids]) rfl rfl (show 4 ≤ 4 by decide) rfl) ?_
         refine qG _ hg37 ?_
         refine step (v := aE ([r3.1, r4.1] : List aj)) (cE rfl (by simp [eL, bP])) ?_
         refine qG _ hg37 ?_
         refine a9 (r := bo r33) (aF aL.nil') (gy hr33) ?_
         refine qG _ hg37 ?_
         refine step (v := vs1 r4.1) (bS (ds := [.int .i64 r4.1.Op, .int .i64 r4.1.F, .int .u16 r4.1.N, eL (some 4) aC r4.1.Kids]) rfl rfl (show 4 ≤ 4 by decide) rfl) ?_
         refine qG _ hg37 ?_
         refine step (v := vs1 r3.1) (bS (ds := [.int .i64 r3.1.Op, .int .i64 r3.1.F, .int .u16 r3.1.N, eL (some 4) aC r3.1.Kids]) rfl rfl (show 4 ≤ 4 by decide) rfl) ?_
         refine qG _ hg37 ?_
         refine step (v := aE ([r4.1, r3.1] : List aj)) (cE rfl (by simp [eL, bP])) ?_
         refine qG _ hg37 ?_
         refine a9 (r := bo r38) (aF aL.nil') (gy hr38) ?_
         refine qG _ hg37 ?_
         refine step (v := aE ([r33, r38] : List aj)) (cE rfl (by simp [eL, bP])) ?_
         refine qG _ hg37 ?_
         refine a9 (r := .bool r39) (aF (aF (aF aL.nil'))) (hZ hr39) ?_
         refine step (v := vb r39) (aJ (b := r36) rfl hg37 rfl) ?_
         refine q1 _ ?_
         have hh := ap hv
         subst hh
         exact nR []
        ·
         replace hv := aH hg37 hv
         iterate 12 refine qX _ hg37 ?_
         refine step (v := vb false) (aM (b := r36) rfl hg37 rfl) ?_
         refine q1 _ ?_
         have hh := ap hv
         subst hh
         exact nR []
       ·
        replace hv := aH hg32 hv
        iterate 15 refine qX _ hg32 ?_
        refine step (v := vb false) (aM (b := r31) rfl hg32 rfl) ?_
        refine q1 _ ?_
        iterate 12 refine qX false (by decide) ?_
        refine step (v := vb false) (aM (b := false) rfl (by decide) rfl) ?_
        refine q1 _ ?_
        have hh := ap hv
        subst hh
        exact nR []
      ·
       replace hv := aH hg26 hv
       iterate 15 refine qX _ hg26 ?_
       refine step (v := vb false) (aM (b := r25) rfl hg26 rfl) ?_
       refine q1 _ ?_
       iterate 15 refine qX false (by decide) ?_
       refine step (v := vb false) (aM (b := false) rfl (by decide) rfl) ?_
       refine q1 _ ?_
       iterate 12 refine qX false (by decide) ?_
       refine step (v := vb false) (aM (b := false) rfl (by decide) rfl) ?_
       refine q1 _ ?_
       have hh := ap hv
       subst hh
       exact nR []
     ·
      replace hv := aH hg22 hv
      iterate 12 refine qX _ hg22 ?_
      refine step (v := vb false) (aM (b := r21) rfl hg22 rfl) ?_
      refine q1 _ ?_
      iterate 15 refine qX false (by decide) ?_
      refine step (v := vb false) (aM (b := false) rfl (by decide) rfl) ?_
      refine q1 _ ?_
      iterate 15 refine qX false (by decide) ?_
      refine step (v := vb false) (aM (b := false) rfl (by decide) rfl) ?_
      refine q1 _ ?_
      iterate 12 refine qX false (by decide) ?_
      refine step (v := vb false) (aM (b := false) rfl (by decide) rfl) ?_
      refine q1 _ ?_
      have hh := ap hv
      subst hh
      exact nR []
    ·
     replace hv := aH hg19 hv
     iterate 10 refine qX _ hg19 ?_
     refine step (v := vb false) (aM (b := r18) rfl hg19 rfl) ?_
     refine q1 _ ?_
     iterate 12 refine qX false (by decide) ?_
     refine step (v := vb false) (aM (b := false) rfl (by decide) rfl) ?_
     refine q1 _ ?_
     iterate 15 refine qX false (by decide) ?_
     refine step (v := vb false) (aM (b := false) rfl (by decide) rfl) ?_
     refine q1 _ ?_
     iterate 15 refine qX false (by decide) ?_
     refine step (v := vb false) (aM (b := false) rfl (by decide) rfl) ?_
     refine q1 _ ?_
     iterate 12 refine qX false (by decide) ?_
     refine step (v := vb false) (aM (b := false) rfl (by decide) rfl) ?_
     refine q1 _ ?_
     have hh := ap hv
     subst hh
     exact nR []
   have hh := ap h
   subst hh
   refine aV ?_
   show FQ _ _ _ _
   exact bh (.inr rfl) (bn (v := vb y40) rfl rfl) (RV.d trivial)
end Go.AM
