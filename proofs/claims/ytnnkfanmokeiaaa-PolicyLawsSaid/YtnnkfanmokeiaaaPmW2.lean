import Derived.Test.YtnnkfanmokeiaaaPmW1
set_option linter.unusedVariables false
set_option linter.unusedSimpArgs false
namespace Go.AM
open Go Go.RowKit Go.Proofs
set_option maxRecDepth 10000
attribute [local irreducible] aR cm
set_option maxHeartbeats 2000000
theorem yL {self : ah → Int → Option Bool} (hself : ∀ (a0 : ah) (a1 : Int) (r : Bool), self a0 a1 = some r → PCall Try.prog 82 [a8 a0, .int .i64 a1] (.bool r)) {a0 : ah} {a1 : Int} {r : Bool} (h : lj self a0 a1 = some r) : PCall Try.prog 82 [a8 a0, .int .i64 a1] (.bool r) := by
 refine PCall.introN xG (show 2 ≤ 127 by decide) ?_
 refine bn (s0 := ⟨tab [(0, vs1 a0), (1, vi a1)], ac [], 0⟩) (nr []) ?_
 refine al ⟨tab [(1, vi a1), (2, aH a0)], ac [], 0⟩ ?_ ?_
 ·
  iterate 2 refine q1 _ ?_
  exact nR []
 refine al ⟨tab [(1, vi a1), (2, aH a0), (5, vi (a0.Kids.length : Int))], ac [], 0⟩ ?_ ?_
 ·
  iterate 2 refine q1 _ ?_
  refine step (v := vi (a0.Kids.length : Int)) (bK (xs := a0.Kids) (e := ax) rfl) ?_
  refine q1 _ ?_
  exact nR []
 refine aL ?_
 refine al ⟨tab [(1, vi a1), (2, aH a0), (5, vi (a0.Kids.length : Int)), (11, vi a0.Op)], ac [], 0⟩ ?_ ?_
 ·
  iterate 2 refine q1 _ ?_
  exact nR []
 refine bI ?_
 obtain ⟨y2, hv, h⟩ := aw h
 refine gw ⟨tab [(1, vi a1), (2, aH a0), (5, vi (a0.Kids.length : Int)), (11, vi a0.Op), (12, vb y2)], ac [], 0⟩ ?_ ?_
 ·
  replace h := hv
  refine al ⟨tab [(1, vi a1), (2, aH a0), (5, vi (a0.Kids.length : Int)), (11, vi a0.Op), (12, vb (a0.Op == 0))], ac [], 0⟩ ?_ ?_
  ·
   iterate 2 refine q1 _ ?_
   exact nR []
  by_cases hc1 : (a0.Op == 0) = true
  ·
   replace h := aJ hc1 h
   refine aV (t := (a0.Op == 0)) rfl hc1 ?_
   have hh := ar h
   subst hh
   refine bn (s0 := ⟨tab [(1, vi a1), (2, aH a0), (5, vi (a0.Kids.length : Int)), (11, vi a0.Op), (12, vb (a0.Op == 0))], ac [], 0⟩) (nr []) ?_
   refine bq ?_
   exact And.intro rfl rfl
  ·
   replace h := aK hc1 h
   refine aW (t := (a0.Op == 0)) rfl hc1 ?_
   have hh := ar h
   subst hh
   refine bM ⟨tab [(1, vi a1), (2, aH a0), (5, vi (a0.Kids.length : Int)), (11, vi a0.Op), (12, vb (a0.Op == 1))], ac [], 0⟩ ?_ ?_
   ·
    iterate 2 refine q1 _ ?_
    exact nR []
   exact And.intro rfl rfl
 by_cases hc4 : y2 = true
 ·
  replace h := aJ hc4 h
  refine aV (t := y2) rfl hc4 ?_
  refine al ⟨tab [(4, vb (((a0.Kids.length : Int) == 0) && ((a0.F == 0) && (a0.N == 0))))], ac [], 0⟩ ?_ ?_
  ·
   iterate 3 refine q1 _ ?_
   by_cases hg5 : ((a0.Kids.length : Int) == 0) = true
   ·
    refine qG _ hg5 ?_
    refine q1 _ ?_
    refine qG _ hg5 ?_
    refine q1 _ ?_
    refine qG _ hg5 ?_
    refine q1 _ ?_
    refine step (v := vb (a0.F == 0)) (aP (b := ((a0.Kids.length : Int) == 0)) rfl hg5 rfl) ?_
    refine q1 _ ?_
    by_cases hg6 : (a0.F == 0) = true
    ·
     refine qG _ hg6 ?_
     refine q1 _ ?_
     refine qG _ hg6 ?_
     refine q1 _ ?_
     refine qG _ hg6 ?_
     refine q1 _ ?_
     refine step (v := vb (a0.N == 0)) (aP (b := (a0.F == 0)) rfl hg6 rfl) ?_
     refine q1 _ ?_
     exact aR.nil' (nm [] ⟨.eq (by first | (simp [hg5, hg6]; done) | (simp_all; done) | grind), trivial⟩ trivial)
    ·
     iterate 3 refine qX _ hg6 ?_
     refine step (v := vb false) (aO (b := (a0.F == 0)) rfl hg6 rfl) ?_
     refine q1 _ ?_
     exact aR.nil' (nm [] ⟨.eq (by first | (simp [hg5, hg6]; done) | (simp_all; done) | grind), trivial⟩ trivial)
   ·
    iterate 3 refine qX _ hg5 ?_
    refine step (v := vb false) (aO (b := ((a0.Kids.length : Int) == 0)) rfl hg5 rfl) ?_
    refine q1 _ ?_
    iterate 3 refine qX false (by decide) ?_
    refine step (v := vb false) (aO (b := false) rfl (by decide) rfl) ?_
    refine q1 _ ?_
    exact aR.nil' (nm [] ⟨.eq (by first | (simp [hg5]; done) | (simp_all; done) | grind), trivial⟩ trivial)
  have hh := ar h
  subst hh
  refine aZ ?_
  show FQ _ _ _ _
  exact bp (.inr rfl) (bo (v := vb (((a0.Kids.length : Int) == 0) && ((a0.F == 0) && (a0.N == 0)))) rfl rfl) (RV.d trivial)
 ·
  replace h := aK hc4 h
  refine aW (t := y2) rfl hc4 ?_
  refine al ⟨tab [(1, vi a1), (2, aH a0), (5, vi (a0.Kids.length : Int)), (11, vi a0.Op), (27, vb (a0.Op == 2))], ac [], 0⟩ ?_ ?_
  ·
   iterate 2 refine q1 _ ?_
   exact nR []
  by_cases hc7 : (a0.Op == 2) = true
  ·
   replace h := aJ hc7 h
   refine aV (t := (a0.Op == 2)) rfl hc7 ?_
   refine al ⟨tab [(4, vb (((a0.Kids.length : Int) == 0) && ((decide (a0.F ≥ 0)) && (decide (a0.F < 8)))))], ac [], 0⟩ ?_ ?_
   ·
    iterate 3 refine q1 _ ?_
    by_cases hg8 : ((a0.Kids.length : Int) == 0) = true
    ·
     refine qG _ hg8 ?_
     refine q1 _ ?_
     refine qG _ hg8 ?_
     refine q1 _ ?_
     refine qG _ hg8 ?_
     refine q1 _ ?_
     refine step (v := vb (decide (a0.F ≥ 0))) (aP (b := ((a0.Kids.length : Int) == 0)) rfl hg8 rfl) ?_
     refine q1 _ ?_
     by_cases hg9 : decide (a0.F ≥ 0) = true
     ·
      refine qG _ hg9 ?_
      refine q1 _ ?_
      refine qG _ hg9 ?_
      refine q1 _ ?_
      refine qG _ hg9 ?_
      refine q1 _ ?_
      refine step (v := vb (decide (a0.F < 8))) (aP (b := decide (a0.F ≥ 0)) rfl hg9 rfl) ?_
      refine q1 _ ?_
      exact aR.nil' (nm [] ⟨.eq (by first | (simp [hg8, hg9]; done) | (simp_all; done) | grind), trivial⟩ trivial)
     ·
      iterate 3 refine qX _ hg9 ?_
      refine step (v := vb false) (aO (b := decide (a0.F ≥ 0)) rfl hg9 rfl) ?_
      refine q1 _ ?_
      exact aR.nil' (nm [] ⟨.eq (by first | (simp [hg8, hg9]; done) | (simp_all; done) | grind), trivial⟩ trivial)
    ·
     iterate 3 refine qX _ hg8 ?_
     refine step (v := vb false) (aO (b := ((a0.Kids.length : Int) == 0)) rfl hg8 rfl) ?_
     refine q1 _ ?_
     iterate 3 refine qX false (by decide) ?_
     refine step (v := vb false) (aO (b := false) rfl (by decide) rfl) ?_
     refine q1 _ ?_
     exact aR.nil' (nm [] ⟨.eq (by first | (simp [hg8]; done) | (simp_all; done) | grind), trivial⟩ trivial)
   have hh := ar h
   subst hh
   refine aZ ?_
   show FQ _ _ _ _
   exact bp (.inr rfl) (bo (v := vb (((a0.Kids.length : Int) == 0) && ((decide (a0.F ≥ 0)) && (decide (a0.F < 8))))) rfl rfl) (RV.d trivial)
  ·
   replace h := aK hc7 h
   refine aW (t := (a0.Op == 2)) rfl hc7 ?_
   refine al ⟨tab [(1, vi a1), (2, aH a0), (5, vi (a0.Kids.length : Int)), (11, vi a0.Op), (41, vb (a0.Op == 3))], ac [], 0⟩ ?_ ?_
   ·
    iterate 2 refine q1 _ ?_
    exact nR []
   by_cases hc10 : (a0.Op == 3) = true
   ·
    replace h := aJ hc10 h
    refine aV (t := (a0.Op == 3)) rfl hc10 ?_
    refine al ⟨tab [(4, vb (((a0.Kids.length : Int) == 0) && ((decide (a0.F ≥ 0)) && (decide (a0.F < a1)))))], ac [], 0⟩ ?_ ?_
    ·
     iterate 3 refine q1 _ ?_
     by_cases hg11 : ((a0.Kids.length : Int) == 0) = true
     ·
      refine qG _ hg11 ?_
      refine q1 _ ?_
      refine qG _ hg11 ?_
      refine q1 _ ?_
      refine qG _ hg11 ?_
      refine q1 _ ?_
      refine step (v := vb (decide (a0.F ≥ 0))) (aP (b := ((a0.Kids.length : Int) == 0)) rfl hg11 rfl) ?_
      refine q1 _ ?_
      by_cases hg12 : decide (a0.F ≥ 0) = true
      ·
       refine qG _ hg12 ?_
       refine q1 _ ?_
       refine qG _ hg12 ?_
       refine q1 _ ?_
       refine qG _ hg12 ?_
       refine q1 _ ?_
       refine qG _ hg12 ?_
       refine q1 _ ?_
       refine step (v := vb (decide (a0.F < a1))) (aP (b := decide (a0.F ≥ 0)) rfl hg12 rfl) ?_
       refine q1 _ ?_
       exact aR.nil' (nm [] ⟨.eq (by first | (simp [hg11, hg12]; done) | (simp_all; done) | grind), trivial⟩ trivial)
      ·
       iterate 4 refine qX _ hg12 ?_
       refine step (v := vb false) (aO (b := decide (a0.F ≥ 0)) rfl hg12 rfl) ?_
       refine q1 _ ?_
       exact aR.nil' (nm [] ⟨.eq (by first | (simp [hg11, hg12]; done) | (simp_all; done) | grind), trivial⟩ trivial)
     ·
      iterate 3 refine qX _ hg11 ?_
      refine step (v := vb false) (aO (b := ((a0.Kids.length : Int) == 0)) rfl hg11 rfl) ?_
      refine q1 _ ?_
      iterate 4 refine qX false (by decide) ?_
      refine step (v := vb false) (aO (b := false) rfl (by decide) rfl) ?_
      refine q1 _ ?_
      exact aR.nil' (nm [] ⟨.eq (by first | (simp [hg11]; done) | (simp_all; done) | grind), trivial⟩ trivial)
    have hh := ar h
    subst hh
    refine aZ ?_
    show FQ _ _ _ _
    exact bp (.inr rfl) (bo (v := vb (((a0.Kids.length : Int) == 0) && ((decide (a0.F ≥ 0)) && (decide (a0.F < a1))))) rfl rfl) (RV.d trivial)
   ·
    replace h := aK hc10 h
    refine aW (t := (a0.Op == 3)) rfl hc10 ?_
    refine al ⟨tab [(1, vi a1), (2, aH a0), (5, vi (a0.Kids.length : Int)), (11, vi a0.Op), (56, vb (a0.Op == 5))], ac [], 0⟩ ?_ ?_
    ·
     iterate 2 refine q1 _ ?_
     exact nR []
    by_cases hc13 : (a0.Op == 5) = true
    ·
     replace h := aJ hc13 h
     refine aV (t := (a0.Op == 5)) rfl hc13 ?_
     refine al ⟨tab [(4, vb (((a0.Kids.length : Int) == 0) && ((decide (a0.F ≥ 1)) && (decide (a0.F < 8)))))], ac [], 0⟩ ?_ ?_
     ·
      iterate 3 refine q1 _ ?_
      by_cases hg14 : ((a0.Kids.length : Int) == 0) = true
      ·
       refine qG _ hg14 ?_
       refine q1 _ ?_
       refine qG _ hg14 ?_
       refine q1 _ ?_
       refine qG _ hg14 ?_
       refine q1 _ ?_
       refine step (v := vb (decide (a0.F ≥ 1))) (aP (b := ((a0.Kids.length : Int) == 0)) rfl hg14 rfl) ?_
       refine q1 _ ?_
       by_cases hg15 : decide (a0.F ≥ 1) = true
       ·
        refine qG _ hg15 ?_
        refine q1 _ ?_
        refine qG _ hg15 ?_
        refine q1 _ ?_
        refine qG _ hg15 ?_
        refine q1 _ ?_
        refine step (v := vb (decide (a0.F < 8))) (aP (b := decide (a0.F ≥ 1)) rfl hg15 rfl) ?_
        refine q1 _ ?_
        exact aR.nil' (nm [] ⟨.eq (by first | (simp [hg14, hg15]; done) | (simp_all; done) | grind), trivial⟩ trivial)
       ·
        iterate 3 refine qX _ hg15 ?_
        refine step (v := vb false) (aO (b := decide (a0.F ≥ 1)) rfl hg15 rfl) ?_
        refine q1 _ ?_
        exact aR.nil' (nm [] ⟨.eq (by first | (simp [hg14, hg15]; done) | (simp_all; done) | grind), trivial⟩ trivial)
      ·
       iterate 3 refine qX _ hg14 ?_
       refine step (v := vb false) (aO (b := ((a0.Kids.length : Int) == 0)) rfl hg14 rfl) ?_
       refine q1 _ ?_
       iterate 3 refine qX false (by decide) ?_
       refine step (v := vb false) (aO (b := false) rfl (by decide) rfl) ?_
       refine q1 _ ?_
       exact aR.nil' (nm [] ⟨.eq (by first | (simp [hg14]; done) | (simp_all; done) | grind), trivial⟩ trivial)
     have hh := ar h
     subst hh
     refine aZ ?_
     show FQ _ _ _ _
     exact bp (.inr rfl) (bo (v := vb (((a0.Kids.length : Int) == 0) && ((decide (a0.F ≥ 1)) && (decide (a0.F < 8))))) rfl rfl) (RV.d trivial)
    ·
     replace h := aK hc13 h
     refine aW (t := (a0.Op == 5)) rfl hc13 ?_
     refine al ⟨tab [(1, vi a1), (2, aH a0), (5, vi (a0.Kids.length : Int)), (11, vi a0.Op), (70, vb (a0.Op == 4))], ac [], 0⟩ ?_ ?_
     ·
      iterate 2 refine q1 _ ?_
      exact nR []
     by_cases hc16 : (a0.Op == 4) = true
     ·
      replace h := aJ hc16 h
      refine aV (t := (a0.Op == 4)) rfl hc16 ?_
      obtain ⟨y24, hv, h⟩ := aw h
      refine al ⟨tab [(4, vb y24)], ac [], 0⟩ ?_ ?_
      ·
       iterate 3 refine q1 _ ?_
       by_cases hg17 : ((a0.Kids.length : Int) == 1) = true
       ·
        replace hv := aJ hg17 hv
        refine qG _ hg17 ?_
        refine q1 _ ?_
        refine qG _ hg17 ?_
        refine q1 _ ?_
        refine qG _ hg17 ?_
        refine q1 _ ?_
        refine step (v := vb (a0.F == 0)) (aP (b := ((a0.Kids.length : Int) == 1)) rfl hg17 rfl) ?_
        refine q1 _ ?_
        by_cases hg18 : (a0.F == 0) = true
        ·
         replace hv := aJ hg18 hv
         refine qG _ hg18 ?_
         refine q1 _ ?_
         refine qG _ hg18 ?_
         refine q1 _ ?_
         refine qG _ hg18 ?_
         refine q1 _ ?_
         refine step (v := vb (a0.N == 0)) (aP (b := (a0.F == 0)) rfl hg18 rfl) ?_
         refine q1 _ ?_
         by_cases hg19 : (a0.N == 0) = true
         ·
          replace hv := aJ hg19 hv
          obtain ⟨x20, hx20, hv⟩ := aw hv
          obtain ⟨r21, hr21, hv⟩ := aw hv
          refine qG _ hg19 ?_
          refine q1 _ ?_
          refine qG _ hg19 ?_
          refine q1 _ ?_
          refine qG _ hg19 ?_
          refine step (v := aH x20) (dS (xs := a0.Kids) (e := ax) hx20 rfl rfl (bD _)) ?_
          refine qG _ hg19 ?_
          refine q1 _ ?_
          refine qG _ hg19 ?_
          refine aX (r := .bool r21) (aE aG.nil') (yK hr21) ?_
          refine step (v := vb r21) (aP (b := (a0.N == 0)) rfl hg19 rfl) ?_
          refine q1 _ ?_
          by_cases hg22 : r21 = true
          ·
           replace hv := aJ hg22 hv
           obtain ⟨r23, hr23, hv⟩ := aw hv
           refine qG _ hg22 ?_
           refine q1 _ ?_
           refine qG _ hg22 ?_
           refine q1 _ ?_
           refine qG _ hg22 ?_
           refine step (v := aH x20) (dS (xs := a0.Kids) (e := ax) hx20 rfl rfl (bD _)) ?_
           refine qG _ hg22 ?_
           refine q1 _ ?_
           refine qG _ hg22 ?_
           refine q1 _ ?_
           refine qG _ hg22 ?_
           refine aX (r := .bool r23) (aE (aE aG.nil')) (hself _ _ _ hr23) ?_
           refine step (v := vb r23) (aP (b := r21) rfl hg22 rfl) ?_
           refine q1 _ ?_
           have hh := ar hv
           subst hh
           exact nR []
          ·
           replace hv := aK hg22 hv
           iterate 6 refine qX _ hg22 ?_
           refine step (v := vb false) (aO (b := r21) rfl hg22 rfl) ?_
           refine q1 _ ?_
           have hh := ar hv
           subst hh
           exact nR []
         ·
          replace hv := aK hg19 hv
          iterate 5 refine qX _ hg19 ?_
          refine step (v := vb false) (aO (b := (a0.N == 0)) rfl hg19 rfl) ?_
          refine q1 _ ?_
          iterate 6 refine qX false (by decide) ?_
          refine step (v := vb false) (aO (b := false) rfl (by decide) rfl) ?_
          refine q1 _ ?_
          have hh := ar hv
          subst hh
          exact nR []
        ·
         replace hv := aK hg18 hv
         iterate 3 refine qX _ hg18 ?_
         refine step (v := vb false) (aO (b := (a0.F == 0)) rfl hg18 rfl) ?_
         refine q1 _ ?_
         iterate 5 refine qX false (by decide) ?_
         refine step (v := vb false) (aO (b := false) rfl (by decide) rfl) ?_
         refine q1 _ ?_
         iterate 6 refine qX false (by decide) ?_
         refine step (v := vb false) (aO (b := false) rfl (by decide) rfl) ?_
         refine q1 _ ?_
         have hh := ar hv
         subst hh
         exact nR []
       ·
        replace hv := aK hg17 hv
        iterate 3 refine qX _ hg17 ?_
        refine step (v := vb false) (aO (b := ((a0.Kids.length : Int) == 1)) rfl hg17 rfl) ?_
        refine q1 _ ?_
        iterate 3 refine qX false (by decide) ?_
        refine step (v := vb false) (aO (b := false) rfl (by decide) rfl) ?_
        refine q1 _ ?_
        iterate 5 refine qX false (by decide) ?_
        refine step (v := vb false) (aO (b := false) rfl (by decide) rfl) ?_
        refine q1 _ ?_
        iterate 6 refine qX false (by decide) ?_
        refine step (v := vb false) (aO (b := false) rfl (by decide) rfl) ?_
        refine q1 _ ?_
        have hh := ar hv
        subst hh
        exact nR []
      have hh := ar h
      subst hh
      refine aZ ?_
      show FQ _ _ _ _
      exact bp (.inr rfl) (bo (v := vb y24) rfl rfl) (RV.d trivial)
     ·
      replace h := aK hc16 h
      refine aW (t := (a0.Op == 4)) rfl hc16 ?_
      obtain ⟨y27, hv, h⟩ := aw h
      refine gw ⟨tab [(1, vi a1), (2, aH a0), (5, vi (a0.Kids.length : Int)), (99, vb y27)], ac [], 0⟩ ?_ ?_
      ·
       replace h := hv
       refine al ⟨tab [(1, vi a1), (2, aH a0), (5, vi (a0.Kids.length : Int)), (11, vi a0.Op), (99, vb (a0.Op == 6))], ac [], 0⟩ ?_ ?_
       ·
        iterate 2 refine q1 _ ?_
        exact nR []
       by_cases hc26 : (a0.Op == 6) = true
       ·
        replace h := aJ hc26 h
        refine aV (t := (a0.Op == 6)) rfl hc26 ?_
        have hh := ar h
        subst hh
        refine bn (s0 := ⟨tab [(1, vi a1), (2, aH a0), (5, vi (a0.Kids.length : Int)), (99, vb (a0.Op == 6))], ac [], 0⟩) (nr []) ?_
        refine bq ?_
        exact And.intro rfl rfl
       ·
        replace h := aK hc26 h
        refine aW (t := (a0.Op == 6)) rfl hc26 ?_
        have hh := ar h
        subst hh
        refine bM ⟨tab [(1, vi a1), (2, aH a0), (5, vi (a0.Kids.length : Int)), (99, vb (a0.Op == 7))], ac [], 0⟩ ?_ ?_
        ·
         iterate 2 refine q1 _ ?_
         exact nR []
        exact And.intro rfl rfl
      by_cases hc29 : y27 = true
      ·
       replace h := aJ hc29 h
       refine aV (t := y27) rfl hc29 ?_
       refine aL ?_
       refine al ⟨tab [(1, vi a1), (2, aH a0), (5, vi (a0.Kids.length : Int)), (113, vb ((decide ((a0.Kids.length : Int) < 2)) || ((a0.F != 0) || (a0.N != 0))))], ac [], 0⟩ ?_ ?_
       ·
        iterate 3 refine q1 _ ?_
        by_cases hg30 : decide ((a0.Kids.length : Int) < 2) = true
        ·
         iterate 3 refine qX (decide ((a0.Kids.length : Int) < 2)) (by rw [hg30]; decide) ?_
         refine step (v := vb true) (aP (b := decide ((a0.Kids.length : Int) < 2)) rfl hg30 rfl) ?_
         refine q1 _ ?_
         iterate 3 refine qX true (by decide) ?_
         refine step (v := vb true) (aP (b := true) rfl rfl rfl) ?_
         exact aR.nil' (nm [] ⟨.d _, .d _, .d _, .eq (by first | (simp [hg30]; done) | (simp_all; done) | grind), trivial⟩ trivial)
        ·
         refine qG (decide ((a0.Kids.length : Int) < 2)) (Bool.eq_false_iff.2 hg30) ?_
         refine q1 _ ?_
         refine qG (decide ((a0.Kids.length : Int) < 2)) (Bool.eq_false_iff.2 hg30) ?_
         refine q1 _ ?_
         refine qG (decide ((a0.Kids.length : Int) < 2)) (Bool.eq_false_iff.2 hg30) ?_
         refine q1 _ ?_
         refine step (v := vb (a0.F != 0)) (aO (b := decide ((a0.Kids.length : Int) < 2)) rfl hg30 rfl) ?_
         refine q1 _ ?_
         by_cases hg31 : (a0.F != 0) = true
         ·
          iterate 3 refine qX (a0.F != 0) (by rw [hg31]; decide) ?_
          refine step (v := vb true) (aP (b := (a0.F != 0)) rfl hg31 rfl) ?_
          exact aR.nil' (nm [] ⟨.d _, .d _, .d _, .eq (by first | (simp [hg30, hg31]; done) | (simp_all; done) | grind), trivial⟩ trivial)
         ·
          refine qG (a0.F != 0) (Bool.eq_false_iff.2 hg31) ?_
          refine q1 _ ?_
          refine qG (a0.F != 0) (Bool.eq_false_iff.2 hg31) ?_
          refine q1 _ ?_
          refine qG (a0.F != 0) (Bool.eq_false_iff.2 hg31) ?_
          refine q1 _ ?_
          refine step (v := vb (a0.N != 0)) (aO (b := (a0.F != 0)) rfl hg31 rfl) ?_
          exact aR.nil' (nm [] ⟨.d _, .d _, .d _, .eq (by first | (simp [hg30, hg31]; done) | (simp_all; done) | grind), trivial⟩ trivial)
       by_cases hc32 : ((decide ((a0.Kids.length : Int) < 2)) || ((a0.F != 0) || (a0.N != 0))) = true
       ·
        replace h := aJ hc32 h
        refine aV (t := ((decide ((a0.Kids.length : Int) < 2)) || ((a0.F != 0) || (a0.N != 0)))) rfl hc32 ?_
        refine al ⟨tab [(4, vb false)], ac [], 0⟩ ?_ ?_
        ·
         refine q1 _ ?_
         exact nR []
        have hh := ar h
        subst hh
        refine aZ ?_
        show FQ _ _ _ _
        exact bp (.inr rfl) (bo (v := vb false) rfl rfl) (RV.d trivial)
       ·
        replace h := aK hc32 h
        refine aW (t := ((decide ((a0.Kids.length : Int) < 2)) || ((a0.F != 0) || (a0.N != 0)))) rfl hc32 ?_
        refine bq ?_
        refine aL ?_
        refine al ⟨tab [(1, vi a1), (2, aH a0), (5, vi (a0.Kids.length : Int)), (6, vi 0)], ac [], 0⟩ ?_ ?_
        ·
         refine q1 _ ?_
         exact nR []
        obtain ⟨q42, hl, h⟩ := aw h
        refine bI ?_
        refine en (cZ (a0.Kids.length : Int)) (fun (i33 : Int) (qq : Unit) => ⟨tab [(1, vi a1), (2, aH a0), (5, vi (a0.Kids.length : Int)), (6, vi i33)], ac [], 0⟩) 1 (fun (qq : Unit) => ⟨tab [], ac [], 0⟩) bO c5 (r := r) hl (by unfold bO; omega) ?_ ?_ ?_ ?_
        ·
         rintro i33 ⟨⟩ xr38 hinv36 hgo35 h
         show aN _ _ _ _ _ ⟨tab [(1, vi a1), (2, aH a0), (5, vi (a0.Kids.length : Int)), (6, vi i33)], ac [], 0⟩
         have hc37 : decide (i33 < (a0.Kids.length : Int)) = true := decide_eq_true hgo35
         refine aL ?_
         refine al ⟨tab [(1, vi a1), (2, aH a0), (5, vi (a0.Kids.length : Int)), (6, vi i33), (115, vi (a0.Kids.length : Int)), (116, vb (decide (i33 < (a0.Kids.length : Int))))], ac [], 0⟩ ?_ ?_
         ·
          iterate 3 refine q1 _ ?_
          exact nR []
         refine df 115 rfl fun hB34 => ?_
         refine aV (t := decide (i33 < (a0.Kids.length : Int))) rfl hc37 ?_
         refine bq ?_
         refine aL ?_
         refine bI ?_
         obtain ⟨x39, hx39, h⟩ := aw h
         obtain ⟨r40, hr40, h⟩ := aw h
         refine al ⟨tab [(1, vi a1), (2, aH a0), (5, vi (a0.Kids.length : Int)), (6, vi i33), (126, vb (!r40))], ac [], 0⟩ ?_ ?_
         ·
          iterate 3 refine q1 _ ?_
          refine step (v := aH x39) (dS (xs := a0.Kids) (e := ax) hx39 rfl rfl (bD _)) ?_
          iterate 2 refine q1 _ ?_
          refine aX (r := .bool r40) (aE (aE aG.nil')) (hself _ _ _ hr40) ?_
          refine q1 _ ?_
          exact nR []
         by_cases hc41 : (!r40) = true
         ·
          replace h := aJ hc41 h
          refine aV (t := (!r40)) rfl hc41 ?_
          refine al ⟨tab [(4, vb false)], ac [], 0⟩ ?_ ?_
          ·
           refine q1 _ ?_
           exact nR []
          obtain ⟨r42, kr42, hr⟩ := cM (o := some false) (g := Br.ret) h
          subst hr
          have h := kr42
          have hh := ar h
          subst hh
          refine aZ ?_
          refine And.intro (fun hn => nomatch hn) ?_
          intro hq
          have hq := hq.symm
          subst hq
          show FQ _ _ _ _
          exact bp (.inr rfl) (bo (v := vb false) rfl rfl) (RV.d trivial)
         ·
          replace h := aK hc41 h
          refine aW (t := (!r40)) rfl hc41 ?_
          refine bq ?_
          have hh := ar h
          subst hh
          refine bM ⟨tab [(1, vi a1), (2, aH a0), (5, vi (a0.Kids.length : Int)), (6, vi (i33 + 1))], ac [], 0⟩ ?_ ?_
          ·
           refine q1 _ ?_
           refine step (v := vi (i33 + 1)) (c8 (c9 hinv36 hgo35 hB34) rfl rfl) ?_
           refine q1 _ ?_
           exact nR []
          exact And.intro rfl rfl
        ·
         rintro i33 ⟨⟩ hinv36 hgo35
         show aN _ _ _ _ _ ⟨tab [(1, vi a1), (2, aH a0), (5, vi (a0.Kids.length : Int)), (6, vi i33)], ac [], 0⟩
         have hc37 : ¬ (decide (i33 < (a0.Kids.length : Int)) = true) := fun hq => hgo35 (of_decide_eq_true hq)
         refine aL ?_
         refine al ⟨tab [(1, vi a1), (2, aH a0), (5, vi (a0.Kids.length : Int)), (6, vi i33), (116, vb (decide (i33 < (a0.Kids.length : Int))))], ac [], 0⟩ ?_ ?_
         ·
          iterate 3 refine q1 _ ?_
          exact nR []
         refine aW (t := decide (i33 < (a0.Kids.length : Int))) rfl hc37 ?_
         refine bn (s0 := ⟨tab [], ac [], 0⟩) (nr []) ?_
         refine cT ?_
         exact And.intro rfl rfl
        ·
         intro r' hq
         subst hq
         exact ar h
        rintro ⟨⟩ rfl
        refine al ⟨tab [(4, vb true)], ac [], 0⟩ ?_ ?_
        ·
         refine q1 _ ?_
         exact nR []
        have hh := ar h
        subst hh
        refine aZ ?_
        show FQ _ _ _ _
        exact bp (.inr rfl) (bo (v := vb true) rfl rfl) (RV.d trivial)
      ·
       replace h := aK hc29 h
       refine aW (t := y27) rfl hc29 ?_
       refine bq ?_
       refine al ⟨tab [(4, vb false)], ac [], 0⟩ ?_ ?_
       ·
        refine q1 _ ?_
        exact nR []
       have hh := ar h
       subst hh
       refine aZ ?_
       show FQ _ _ _ _
       exact bp (.inr rfl) (bo (v := vb false) rfl rfl) (RV.d trivial)
theorem rW : ∀ (k : Nat) (a0 : ah) (a1 : Int) (r : Bool), iZ k a0 a1 = some r → PCall Try.prog 82 [a8 a0, .int .i64 a1] (.bool r)
 | 0, _, _, _, h => by cases h
 | k + 1, _, _, _, h => yL (rW k) h
theorem yM {a0 : ah} {a1 : Int} {r : Bool} (h : ni a0 a1 = some r) : PCall Try.prog 82 [a8 a0, .int .i64 a1] (.bool r) := rW cL _ _ _ h
theorem ou {a0 : (List eT)} {a1 : Int} {r : Bool} (h : lk a0 a1 = some r) : PCall Try.prog 83 [eL (some 2) cI a0, .int .i64 a1] (.bool r) := by
 refine PCall.introN xJ (show 2 ≤ 45 by decide) ?_
 refine bn (s0 := ⟨tab [(0, bE a0), (1, vi a1)], ac [], 0⟩) (nr []) ?_
 refine al ⟨tab [(0, bE a0), (1, vi a1)], ac [], 0⟩ ?_ ?_
 ·
  refine q1 _ ?_
  exact nR []
 refine aL ?_
 refine al ⟨tab [(0, bE a0), (1, vi a1), (5, vi 0)], ac [], 0⟩ ?_ ?_
 ·
  refine q1 _ ?_
  exact nR []
 obtain ⟨q15, hl, h⟩ := aw h
 refine bI ?_
 refine en (cZ (a0.length : Int)) (fun (i1 : Int) (qq : Unit) => ⟨tab [(0, bE a0), (1, vi a1), (5, vi i1)], ac [], 0⟩) 0 (fun (qq : Unit) => ⟨tab [], ac [], 0⟩) bO c5 (r := r) hl (by unfold bO; omega) ?_ ?_ ?_ ?_
 ·
  rintro i1 ⟨⟩ xr6 hinv4 hgo3 h
  show aN _ _ _ _ _ ⟨tab [(0, bE a0), (1, vi a1), (5, vi i1)], ac [], 0⟩
  have hc5 : decide (i1 < (a0.length : Int)) = true := decide_eq_true hgo3
  refine aL ?_
  refine al ⟨tab [(0, bE a0), (1, vi a1), (5, vi i1), (8, vi (a0.length : Int)), (9, vb (decide (i1 < (a0.length : Int))))], ac [], 0⟩ ?_ ?_
  ·
   iterate 2 refine q1 _ ?_
   refine step (v := vi (a0.length : Int)) (bK (xs := a0) (e := cI) rfl) ?_
   refine q1 _ ?_
   exact nR []
  refine df 8 rfl fun hB2 => ?_
  refine aV (t := decide (i1 < (a0.length : Int))) rfl hc5 ?_
  refine bq ?_
  refine aL ?_
  refine bI ?_
  obtain ⟨x7, hx7, h⟩ := aw h
  obtain ⟨y12, hv, h⟩ := aw h
  refine al ⟨tab [(0, bE a0), (1, vi a1), (5, vi i1), (44, vb y12)], ac [], 0⟩ ?_ ?_
  ·
   iterate 2 refine q1 _ ?_
   refine step (v := fY x7) (du (xs := a0) (e := cI) hx7 rfl rfl) ?_
   iterate 4 refine q1 _ ?_
   by_cases hg8 : decide (x7.F < 0) = true
   ·
    replace hv := aJ hg8 hv
    iterate 7 refine qX (decide (x7.F < 0)) (by rw [hg8]; decide) ?_
    refine step (v := vb true) (aP (b := decide (x7.F < 0)) rfl hg8 rfl) ?_
    refine q1 _ ?_
    iterate 3 refine qX true (by decide) ?_
    refine bR rfl ?_
    refine bR rfl ?_
    refine bR rfl ?_
    refine bR rfl ?_
    refine bR rfl ?_
    refine bR rfl ?_
    refine bR rfl ?_
    refine bR rfl ?_
    refine bR rfl ?_
    refine bR rfl ?_
    refine bR rfl ?_
    refine bR rfl ?_
    refine qX true (by decide) ?_
    refine step (v := vb true) (aP (b := true) rfl rfl rfl) ?_
    have hh := ar hv
    subst hh
    exact nR []
   ·
    replace hv := aK hg8 hv
    refine qG (decide (x7.F < 0)) (Bool.eq_false_iff.2 hg8) ?_
    refine q1 _ ?_
    refine qG (decide (x7.F < 0)) (Bool.eq_false_iff.2 hg8) ?_
    refine q1 _ ?_
    refine qG (decide (x7.F < 0)) (Bool.eq_false_iff.2 hg8) ?_
    refine step (v := fY x7) (du (xs := a0) (e := cI) hx7 rfl rfl) ?_
    refine qG (decide (x7.F < 0)) (Bool.eq_false_iff.2 hg8) ?_
    refine q1 _ ?_
    refine qG (decide (x7.F < 0)) (Bool.eq_false_iff.2 hg8) ?_
    refine q1 _ ?_
    refine qG (decide (x7.F < 0)) (Bool.eq_false_iff.2 hg8) ?_
    refine q1 _ ?_
    refine qG (decide (x7.F < 0)) (Bool.eq_false_iff.2 hg8) ?_
    refine q1 _ ?_
    refine step (v := vb (decide (x7.F ≥ a1))) (aO (b := decide (x7.F < 0)) rfl hg8 rfl) ?_
    refine q1 _ ?_
    by_cases hg9 : decide (x7.F ≥ a1) = true
    ·
     replace hv := aJ hg9 hv
     iterate 3 refine qX (decide (x7.F ≥ a1)) (by rw [hg9]; decide) ?_
     refine bR rfl ?_
     refine bR rfl ?_
     refine bR rfl ?_
     refine bR rfl ?_
     refine bR rfl ?_
     refine bR rfl ?_
     refine bR rfl ?_
     refine bR rfl ?_
     refine bR rfl ?_
     refine bR rfl ?_
     refine bR rfl ?_
     refine bR rfl ?_
     refine qX (decide (x7.F ≥ a1)) (by rw [hg9]; decide) ?_
     refine step (v := vb true) (aP (b := decide (x7.F ≥ a1)) rfl hg9 rfl) ?_
     have hh := ar hv
     subst hh
     exact nR []
    ·
     replace hv := aK hg9 hv
     refine qG (decide (x7.F ≥ a1)) (Bool.eq_false_iff.2 hg9) ?_
     refine q1 _ ?_
     refine qG (decide (x7.F ≥ a1)) (Bool.eq_false_iff.2 hg9) ?_
     refine q1 _ ?_
     refine qG (decide (x7.F ≥ a1)) (Bool.eq_false_iff.2 hg9) ?_
     refine q1 _ ?_
     by_cases hg10 : decide (i1 > 0) = true
     ·
      replace hv := aJ hg10 hv
      obtain ⟨x11, hx11, hv⟩ := aw hv
      refine qG _ hg10 ?_
      refine q1 _ ?_
      refine qG _ hg10 ?_
      refine q1 _ ?_
      refine qG _ hg10 ?_
      refine q1 _ ?_
      refine qG _ hg10 ?_
      refine step (v := fY x11) (du (xs := a0) (e := cI) hx11 rfl rfl) ?_
      refine qG _ hg10 ?_
      refine q1 _ ?_
      refine qG _ hg10 ?_
      refine q1 _ ?_
      refine qG _ hg10 ?_
      refine q1 _ ?_
      refine qG _ hg10 ?_
      refine q1 _ ?_
      refine qG _ hg10 ?_
      refine step (v := fY x7) (du (xs := a0) (e := cI) hx7 rfl rfl) ?_
      refine qG _ hg10 ?_
      refine q1 _ ?_
      refine qG _ hg10 ?_
      refine q1 _ ?_
      refine qG _ hg10 ?_
      refine q1 _ ?_
      refine qG (decide (x7.F ≥ a1)) (Bool.eq_false_iff.2 hg9) ?_
      refine step (v := vb (decide (x11.F ≥ x7.F))) (aP (b := decide (i1 > 0)) rfl hg10 rfl) ?_
      refine step (v := vb (decide (x11.F ≥ x7.F))) (aO (b := decide (x7.F ≥ a1)) rfl hg9 rfl) ?_
      have hh := ar hv
      subst hh
      exact nR []
     ·
      replace hv := aK hg10 hv
      iterate 12 refine qX _ hg10 ?_
      refine qG (decide (x7.F ≥ a1)) (Bool.eq_false_iff.2 hg9) ?_
      refine step (v := vb false) (aO (b := decide (i1 > 0)) rfl hg10 rfl) ?_
      refine step (v := vb false) (aO (b := decide (x7.F ≥ a1)) rfl hg9 rfl) ?_
      have hh := ar hv
      subst hh
      exact nR []
  by_cases hc14 : y12 = true
  ·
   replace h := aJ hc14 h
   refine aV (t := y12) rfl hc14 ?_
   refine al ⟨tab [(4, vb false)], ac [], 0⟩ ?_ ?_
   ·
    refine q1 _ ?_
    exact nR []
   obtain ⟨r15, kr15, hr⟩ := cM (o := some false) (g := Br.ret) h
   subst hr
   have h := kr15
   have hh := ar h
   subst hh
   refine aZ ?_
   refine And.intro (fun hn => nomatch hn) ?_
   intro hq
   have hq := hq.symm
   subst hq
   show FQ _ _ _ _
   exact bp (.inr rfl) (bo (v := vb false) rfl rfl) (RV.d trivial)
  ·
   replace h := aK hc14 h
   refine aW (t := y12) rfl hc14 ?_
   refine bq ?_
   have hh := ar h
   subst hh
   refine bM ⟨tab [(0, bE a0), (1, vi a1), (5, vi (i1 + 1))], ac [], 0⟩ ?_ ?_
   ·
    refine q1 _ ?_
    refine step (v := vi (i1 + 1)) (c8 (c9 hinv4 hgo3 hB2) rfl rfl) ?_
    refine q1 _ ?_
    exact nR []
   exact And.intro rfl rfl
 ·
  rintro i1 ⟨⟩ hinv4 hgo3
  show aN _ _ _ _ _ ⟨tab [(0, bE a0), (1, vi a1), (5, vi i1)], ac [], 0⟩
  have hc5 : ¬ (decide (i1 < (a0.length : Int)) = true) := fun hq => hgo3 (of_decide_eq_true hq)
  refine aL ?_
  refine al ⟨tab [(0, bE a0), (1, vi a1), (5, vi i1), (9, vb (decide (i1 < (a0.length : Int))))], ac [], 0⟩ ?_ ?_
  ·
   iterate 2 refine q1 _ ?_
   refine step (v := vi (a0.length : Int)) (bK (xs := a0) (e := cI) rfl) ?_
   refine q1 _ ?_
   exact nR []
  refine aW (t := decide (i1 < (a0.length : Int))) rfl hc5 ?_
  refine bn (s0 := ⟨tab [], ac [], 0⟩) (nr []) ?_
  refine cT ?_
  exact And.intro rfl rfl
 ·
  intro r' hq
  subst hq
  exact ar h
 rintro ⟨⟩ rfl
 refine al ⟨tab [(4, vb true)], ac [], 0⟩ ?_ ?_
 ·
  refine q1 _ ?_
  exact nR []
 have hh := ar h
 subst hh
 refine aZ ?_
 show FQ _ _ _ _
 exact bp (.inr rfl) (bo (v := vb true) rfl rfl) (RV.d trivial)
theorem yN {a0 : dL} {r : Int} (h : lm a0 = some r) : PCall Try.prog 56 [ji a0] (.int .i64 r) := by
 refine PCall.introN xM (show 1 ≤ 102 by decide) ?_
 refine bn (s0 := ⟨tab [(0, .d (ji a0))], ac [], 0⟩) (nr []) ?_
 refine al ⟨tab [(1, dV a0)], ac [], 0⟩ ?_ ?_
 ·
  iterate 2 refine q1 _ ?_
  exact nR []
 refine aL ?_
 obtain ⟨y7, hv, h⟩ := aw h
 refine al ⟨tab [(1, dV a0), (32, vb y7)], ac [], 0⟩ ?_ ?_
 ·
  iterate 2 refine q1 _ ?_
  refine step (v := vi (a0.Init.length : Int)) (bK (xs := a0.Init) (e := (D.int .u16)) rfl) ?_
  iterate 2 refine q1 _ ?_
  by_cases hg1 : decide ((a0.Init.length : Int) < 1) = true
  ·
   replace hv := aJ hg1 hv
   iterate 4 refine qX (decide ((a0.Init.length : Int) < 1)) (by rw [hg1]; decide) ?_
   refine step (v := vb true) (aP (b := decide ((a0.Init.length : Int) < 1)) rfl hg1 rfl) ?_
   refine q1 _ ?_
   iterate 4 refine qX true (by decide) ?_
   refine step (v := vb true) (aP (b := true) rfl rfl rfl) ?_
   refine q1 _ ?_
   iterate 4 refine qX true (by decide) ?_
   refine step (v := vb true) (aP (b := true) rfl rfl rfl) ?_
   refine q1 _ ?_
   iterate 4 refine qX true (by decide) ?_
   refine step (v := vb true) (aP (b := true) rfl rfl rfl) ?_
   have hh := ar hv
   subst hh
   exact nR []
  ·
   replace hv := aK hg1 hv
   refine qG (decide ((a0.Init.length : Int) < 1)) (Bool.eq_false_iff.2 hg1) ?_
   refine q1 _ ?_
   refine qG (decide ((a0.Init.length : Int) < 1)) (Bool.eq_false_iff.2 hg1) ?_
   refine q1 _ ?_
   refine qG (decide ((a0.Init.length : Int) < 1)) (Bool.eq_false_iff.2 hg1) ?_
   refine step (v := vi (a0.Init.length : Int)) (bK (xs := a0.Init) (e := (D.int .u16)) rfl) ?_
   refine qG (decide ((a0.Init.length : Int) < 1)) (Bool.eq_false_iff.2 hg1) ?_
   refine q1 _ ?_
   refine step (v := vb (decide ((a0.Init.length : Int) > 4))) (aO (b := decide ((a0.Init.length : Int) < 1)) rfl hg1 rfl) ?_
   refine q1 _ ?_
   by_cases hg2 : decide ((a0.Init.length : Int) > 4) = true
   ·
    replace hv := aJ hg2 hv
    iterate 4 refine qX (decide ((a0.Init.length : Int) > 4)) (by rw [hg2]; decide) ?_
    refine step (v := vb true) (aP (b := decide ((a0.Init.length : Int) > 4)) rfl hg2 rfl) ?_
    refine q1 _ ?_
    iterate 4 refine qX true (by decide) ?_
    refine step (v := vb true) (aP (b := true) rfl rfl rfl) ?_
    refine q1 _ ?_
    iterate 4 refine qX true (by decide) ?_
    refine step (v := vb true) (aP (b := true) rfl rfl rfl) ?_
    have hh := ar hv
    subst hh
    exact nR []
   ·
    replace hv := aK hg2 hv
    obtain ⟨r3, hr3, hv⟩ := aw hv
    refine qG (decide ((a0.Init.length : Int) > 4)) (Bool.eq_false_iff.2 hg2) ?_
    refine q1 _ ?_
    refine qG (decide ((a0.Init.length : Int) > 4)) (Bool.eq_false_iff.2 hg2) ?_
    refine q1 _ ?_
    refine qG (decide ((a0.Init.length : Int) > 4)) (Bool.eq_false_iff.2 hg2) ?_
    refine aX (r := .int .i64 r3) (aE aG.nil') (rS hr3) ?_
    refine qG (decide ((a0.Init.length : Int) > 4)) (Bool.eq_false_iff.2 hg2) ?_
    refine q1 _ ?_
    refine step (v := vb (decide (r3 > 300))) (aO (b := decide ((a0.Init.length : Int) > 4)) rfl hg2 rfl) ?_
    refine q1 _ ?_
    by_cases hg4 : decide (r3 > 300) = true
    ·
     replace hv := aJ hg4 hv
     iterate 4 refine qX (decide (r3 > 300)) (by rw [hg4]; decide) ?_
     refine step (v := vb true) (aP (b := decide (r3 > 300)) rfl hg4 rfl) ?_
     refine q1 _ ?_
     iterate 4 refine qX true (by decide) ?_
     refine step (v := vb true) (aP (b := true) rfl rfl rfl) ?_
     have hh := ar hv
     subst hh
     exact nR []
    ·
     replace hv := aK hg4 hv
     obtain ⟨r5, hr5, hv⟩ := aw hv
     refine qG (decide (r3 > 300)) (Bool.eq_false_iff.2 hg4) ?_
     refine q1 _ ?_
     refine qG (decide (r3 > 300)) (Bool.eq_false_iff.2 hg4) ?_
     refine q1 _ ?_
     refine qG (decide (r3 > 300)) (Bool.eq_false_iff.2 hg4) ?_
     refine aX (r := .int .i64 r5) (aE aG.nil') (rU hr5) ?_
     refine qG (decide (r3 > 300)) (Bool.eq_false_iff.2 hg4) ?_
     refine q1 _ ?_
     refine step (v := vb (decide (r5 > 20))) (aO (b := decide (r3 > 300)) rfl hg4 rfl) ?_
     refine q1 _ ?_
     by_cases hg6 : decide (r5 > 20) = true
     ·
      replace hv := aJ hg6 hv
      iterate 4 refine qX (decide (r5 > 20)) (by rw [hg6]; decide) ?_
      refine step (v := vb true) (aP (b := decide (r5 > 20)) rfl hg6 rfl) ?_
      have hh := ar hv
      subst hh
      exact nR []
     ·
      replace hv := aK hg6 hv
      refine qG (decide (r5 > 20)) (Bool.eq_false_iff.2 hg6) ?_
      refine q1 _ ?_
      refine qG (decide (r5 > 20)) (Bool.eq_false_iff.2 hg6) ?_
      refine q1 _ ?_
      refine qG (decide (r5 > 20)) (Bool.eq_false_iff.2 hg6) ?_
      refine step (v := vi (a0.Rules.length : Int)) (bK (xs := a0.Rules) (e := fH) rfl) ?_
      refine qG (decide (r5 > 20)) (Bool.eq_false_iff.2 hg6) ?_
      refine q1 _ ?_
      refine step (v := vb (decide ((a0.Rules.length : Int) > 24))) (aO (b := decide (r5 > 20)) rfl hg6 rfl) ?_
      have hh := ar hv
      subst hh
      exact nR []
 by_cases hc9 : y7 = true
 ·
  replace h := aJ hc9 h
  refine aV (t := y7) rfl hc9 ?_
  refine al ⟨tab [(2, vi 2)], ac [], 0⟩ ?_ ?_
  ·
   refine q1 _ ?_
   exact nR []
  have hh := ar h
  subst hh
  refine aZ ?_
  show FQ _ _ _ _
  exact bp (.inr rfl) (bo (v := vi 2) rfl rfl) (RV.d trivial)
 ·
  replace h := aK hc9 h
  refine aW (t := y7) rfl hc9 ?_
  refine bq ?_
  refine aL ?_
  obtain ⟨r10, hr10, h⟩ := aw h
  refine al ⟨tab [(1, dV a0), (39, vb (!r10))], ac [], 0⟩ ?_ ?_
  ·
   iterate 4 refine q1 _ ?_
   refine step (v := vi (a0.Init.length : Int)) (bK (xs := a0.Init) (e := (D.int .u16)) rfl) ?_
   refine aX (r := .bool r10) (aE (aE aG.nil')) (yM hr10) ?_
   refine q1 _ ?_
   exact nR []
  by_cases hc11 : (!r10) = true
  ·
   replace h := aJ hc11 h
   refine aV (t := (!r10)) rfl hc11 ?_
   refine al ⟨tab [(2, vi 11)], ac [], 0⟩ ?_ ?_
   ·
    refine q1 _ ?_
    exact nR []
   have hh := ar h
   subst hh
   refine aZ ?_
   show FQ _ _ _ _
   exact bp (.inr rfl) (bo (v := vi 11) rfl rfl) (RV.d trivial)
  ·
   replace h := aK hc11 h
   refine aW (t := (!r10)) rfl hc11 ?_
   refine bq ?_
   refine aL ?_
   refine al ⟨tab [(1, dV a0), (3, vi 0)], ac [], 0⟩ ?_ ?_
   ·
    refine q1 _ ?_
    exact nR []
   obtain ⟨q33, hl, h⟩ := aw h
   refine bI ?_
   refine en (cZ (a0.Rules.length : Int)) (fun (i12 : Int) (qq : Unit) => ⟨tab [(1, dV a0), (3, vi i12)], ac [], 0⟩) 0 (fun (qq : Unit) => ⟨tab [], ac [], 0⟩) bO c5 (r := r) hl (by unfold bO; omega) ?_ ?_ ?_ ?_
   ·
    rintro i12 ⟨⟩ xr17 hinv15 hgo14 h
    show aN _ _ _ _ _ ⟨tab [(1, dV a0), (3, vi i12)], ac [], 0⟩
    have hc16 : decide (i12 < (a0.Rules.length : Int)) = true := decide_eq_true hgo14
    refine aL ?_
    refine al ⟨tab [(1, dV a0), (3, vi i12), (43, vi (a0.Rules.length : Int)), (44, vb (decide (i12 < (a0.Rules.length : Int))))], ac [], 0⟩ ?_ ?_
    ·
     iterate 3 refine q1 _ ?_
     refine step (v := vi (a0.Rules.length : Int)) (bK (xs := a0.Rules) (e := fH) rfl) ?_
     refine q1 _ ?_
     exact nR []
    refine df 43 rfl fun hB13 => ?_
    refine aV (t := decide (i12 < (a0.Rules.length : Int))) rfl hc16 ?_
    refine bq ?_
    refine aL ?_
    refine bI ?_
    obtain ⟨x18, hx18, h⟩ := aw h
    refine al ⟨tab [(1, dV a0), (3, vi i12), (4, .ptr 0 0 0)], ac [(0, .var [bE x18.When, bE x18.Guard, bE x18.Then])], 1⟩ ?_ ?_
    ·
     iterate 3 refine q1 _ ?_
     refine step (v := .d (.cptr (some 3) (fH x18) 0)) (du (xs := a0.Rules) (e := fH) hx18 rfl rfl) ?_
     refine q1 _ ?_
     refine step (v := .ptr 0 0 0) (σ' := (ak (ac []) 0 (some (.var [bE [], bE [], bE []])))) (n' := 1) rfl ?_
     refine step (v := V.undef) (σ' := (ak (ak (ac []) 0 (some (.var [bE [], bE [], bE []]))) 0 (some (.var [bE x18.When, bE x18.Guard, bE x18.Then])))) (n' := 1) rfl ?_
     exact nR [0]
    obtain ⟨y30, hv, h⟩ := aw h
    refine al ⟨tab [(1, dV a0), (3, vi i12), (101, vb y30)], ac [], 0⟩ ?_ ?_
    ·
     iterate 2 refine q1 _ ?_
     refine step (v := vi (x18.When.length : Int)) (bK (xs := x18.When) (e := cI) rfl) ?_
     iterate 2 refine q1 _ ?_
     by_cases hg19 : decide ((x18.When.length : Int) < 2) = true
     ·
      replace hv := aJ hg19 hv
      iterate 6 refine qX (decide ((x18.When.length : Int) < 2)) (by rw [hg19]; decide) ?_
      refine step (v := vb true) (aP (b := decide ((x18.When.length : Int) < 2)) rfl hg19 rfl) ?_
      refine q1 _ ?_
      iterate 6 refine qX true (by decide) ?_
      refine step (v := vb true) (aP (b := true) rfl rfl rfl) ?_
      refine q1 _ ?_
      iterate 4 refine qX true (by decide) ?_
      refine step (v := vb true) (aP (b := true) rfl rfl rfl) ?_
      refine q1 _ ?_
      iterate 7 refine qX true (by decide) ?_
      refine step (v := vb true) (aP (b := true) rfl rfl rfl) ?_
      refine q1 _ ?_
      iterate 7 refine qX true (by decide) ?_
      refine step (v := vb true) (aP (b := true) rfl rfl rfl) ?_
      refine q1 _ ?_
      iterate 4 refine qX true (by decide) ?_
      refine step (v := vb true) (aP (b := true) rfl rfl rfl) ?_
      have hh := ar hv
      subst hh
      exact nR []
     ·
      replace hv := aK hg19 hv
      obtain ⟨x20, hx20, hv⟩ := aw hv
      refine qG (decide ((x18.When.length : Int) < 2)) (Bool.eq_false_iff.2 hg19) ?_
      refine q1 _ ?_
      refine qG (decide ((x18.When.length : Int) < 2)) (Bool.eq_false_iff.2 hg19) ?_
      refine q1 _ ?_
      refine qG (decide ((x18.When.length : Int) < 2)) (Bool.eq_false_iff.2 hg19) ?_
      refine step (v := fY x20) (du (xs := x18.When) (e := cI) hx20 rfl rfl) ?_
      refine qG (decide ((x18.When.length : Int) < 2)) (Bool.eq_false_iff.2 hg19) ?_
      refine q1 _ ?_
      refine qG (decide ((x18.When.length : Int) < 2)) (Bool.eq_false_iff.2 hg19) ?_
      refine q1 _ ?_
      refine qG (decide ((x18.When.length : Int) < 2)) (Bool.eq_false_iff.2 hg19) ?_
      refine q1 _ ?_
      refine step (v := vb (x20.F != 0)) (aO (b := decide ((x18.When.length : Int) < 2)) rfl hg19 rfl) ?_
      refine q1 _ ?_
      by_cases hg21 : (x20.F != 0) = true
      ·
       replace hv := aJ hg21 hv
       iterate 6 refine qX (x20.F != 0) (by rw [hg21]; decide) ?_
       refine step (v := vb true) (aP (b := (x20.F != 0)) rfl hg21 rfl) ?_
       refine q1 _ ?_
       iterate 4 refine qX true (by decide) ?_
       refine step (v := vb true) (aP (b := true) rfl rfl rfl) ?_
       refine q1 _ ?_
       iterate 7 refine qX true (by decide) ?_
       refine step (v := vb true) (aP (b := true) rfl rfl rfl) ?_
       refine q1 _ ?_
       iterate 7 refine qX true (by decide) ?_
       refine step (v := vb true) (aP (b := true) rfl rfl rfl) ?_
       refine q1 _ ?_
       iterate 4 refine qX true (by decide) ?_
       refine step (v := vb true) (aP (b := true) rfl rfl rfl) ?_
       have hh := ar hv
       subst hh
       exact nR []
      ·
       replace hv := aK hg21 hv
       obtain ⟨x22, hx22, hv⟩ := aw hv
       refine qG (x20.F != 0) (Bool.eq_false_iff.2 hg21) ?_
       refine q1 _ ?_
       refine qG (x20.F != 0) (Bool.eq_false_iff.2 hg21) ?_
       refine q1 _ ?_
       refine qG (x20.F != 0) (Bool.eq_false_iff.2 hg21) ?_
       refine step (v := fY x22) (du (xs := x18.When) (e := cI) hx22 rfl rfl) ?_
       refine qG (x20.F != 0) (Bool.eq_false_iff.2 hg21) ?_
       refine q1 _ ?_
       refine qG (x20.F != 0) (Bool.eq_false_iff.2 hg21) ?_
       refine q1 _ ?_
       refine qG (x20.F != 0) (Bool.eq_false_iff.2 hg21) ?_
       refine q1 _ ?_
       refine step (v := vb (x22.F != 1)) (aO (b := (x20.F != 0)) rfl hg21 rfl) ?_
       refine q1 _ ?_
       by_cases hg23 : (x22.F != 1) = true
       ·
        replace hv := aJ hg23 hv
        iterate 4 refine qX (x22.F != 1) (by rw [hg23]; decide) ?_
        refine step (v := vb true) (aP (b := (x22.F != 1)) rfl hg23 rfl) ?_
        refine q1 _ ?_
        iterate 7 refine qX true (by decide) ?_
        refine step (v := vb true) (aP (b := true) rfl rfl rfl) ?_
        refine q1 _ ?_
        iterate 7 refine qX true (by decide) ?_
        refine step (v := vb true) (aP (b := true) rfl rfl rfl) ?_
        refine q1 _ ?_
        iterate 4 refine qX true (by decide) ?_
        refine step (v := vb true) (aP (b := true) rfl rfl rfl) ?_
        have hh := ar hv
        subst hh
        exact nR []
       ·
        replace hv := aK hg23 hv
        obtain ⟨r24, hr24, hv⟩ := aw hv
        refine qG (x22.F != 1) (Bool.eq_false_iff.2 hg23) ?_
        refine q1 _ ?_
        refine qG (x22.F != 1) (Bool.eq_false_iff.2 hg23) ?_
        refine q1 _ ?_
        refine qG (x22.F != 1) (Bool.eq_false_iff.2 hg23) ?_
        refine aX (r := .bool r24) (aE (aE aG.nil')) (ou hr24) ?_
        refine qG (x22.F != 1) (Bool.eq_false_iff.2 hg23) ?_
        refine q1 _ ?_
        refine step (v := vb (!r24)) (aO (b := (x22.F != 1)) rfl hg23 rfl) ?_
        refine q1 _ ?_
        by_cases hg25 : (!r24) = true
        ·
         replace hv := aJ hg25 hv
         iterate 7 refine qX (!r24) (by rw [hg25]; decide) ?_
         refine step (v := vb true) (aP (b := (!r24)) rfl hg25 rfl) ?_
         refine q1 _ ?_
         iterate 7 refine qX true (by decide) ?_
         refine step (v := vb true) (aP (b := true) rfl rfl rfl) ?_
         refine q1 _ ?_
         iterate 4 refine qX true (by decide) ?_
         refine step (v := vb true) (aP (b := true) rfl rfl rfl) ?_
         have hh := ar hv
         subst hh
         exact nR []
        ·
         replace hv := aK hg25 hv
         obtain ⟨r26, hr26, hv⟩ := aw hv
         refine qG (!r24) (Bool.eq_false_iff.2 hg25) ?_
         refine q1 _ ?_
         refine qG (!r24) (Bool.eq_false_iff.2 hg25) ?_
         refine q1 _ ?_
         refine qG (!r24) (Bool.eq_false_iff.2 hg25) ?_
         refine q1 _ ?_
         refine qG (!r24) (Bool.eq_false_iff.2 hg25) ?_
         refine q1 _ ?_
         refine qG (!r24) (Bool.eq_false_iff.2 hg25) ?_
         refine step (v := vi (a0.Init.length : Int)) (bK (xs := a0.Init) (e := (D.int .u16)) rfl) ?_
         refine qG (!r24) (Bool.eq_false_iff.2 hg25) ?_
         refine aX (r := .bool r26) (aE (aE aG.nil')) (ou hr26) ?_
         refine qG (!r24) (Bool.eq_false_iff.2 hg25) ?_
         refine q1 _ ?_
         refine step (v := vb (!r26)) (aO (b := (!r24)) rfl hg25 rfl) ?_
         refine q1 _ ?_
         by_cases hg27 : (!r26) = true
         ·
          replace hv := aJ hg27 hv
          iterate 7 refine qX (!r26) (by rw [hg27]; decide) ?_
          refine step (v := vb true) (aP (b := (!r26)) rfl hg27 rfl) ?_
          refine q1 _ ?_
          iterate 4 refine qX true (by decide) ?_
          refine step (v := vb true) (aP (b := true) rfl rfl rfl) ?_
          have hh := ar hv
          subst hh
          exact nR []
         ·
          replace hv := aK hg27 hv
          obtain ⟨r28, hr28, hv⟩ := aw hv
          refine qG (!r26) (Bool.eq_false_iff.2 hg27) ?_
          refine q1 _ ?_
          refine qG (!r26) (Bool.eq_false_iff.2 hg27) ?_
          refine q1 _ ?_
          refine qG (!r26) (Bool.eq_false_iff.2 hg27) ?_
          refine q1 _ ?_
          refine qG (!r26) (Bool.eq_false_iff.2 hg27) ?_
          refine q1 _ ?_
          refine qG (!r26) (Bool.eq_false_iff.2 hg27) ?_
          refine step (v := vi (a0.Init.length : Int)) (bK (xs := a0.Init) (e := (D.int .u16)) rfl) ?_
          refine qG (!r26) (Bool.eq_false_iff.2 hg27) ?_
          refine aX (r := .bool r28) (aE (aE aG.nil')) (ou hr28) ?_
          refine qG (!r26) (Bool.eq_false_iff.2 hg27) ?_
          refine q1 _ ?_
          refine step (v := vb (!r28)) (aO (b := (!r26)) rfl hg27 rfl) ?_
          refine q1 _ ?_
          by_cases hg29 : (!r28) = true
          ·
           replace hv := aJ hg29 hv
           iterate 4 refine qX (!r28) (by rw [hg29]; decide) ?_
           refine step (v := vb true) (aP (b := (!r28)) rfl hg29 rfl) ?_
           have hh := ar hv
           subst hh
           exact nR []
          ·
           replace hv := aK hg29 hv
           refine qG (!r28) (Bool.eq_false_iff.2 hg29) ?_
           refine q1 _ ?_
           refine qG (!r28) (Bool.eq_false_iff.2 hg29) ?_
           refine q1 _ ?_
           refine qG (!r28) (Bool.eq_false_iff.2 hg29) ?_
           refine step (v := vi (x18.Then.length : Int)) (bK (xs := x18.Then) (e := cI) rfl) ?_
           refine qG (!r28) (Bool.eq_false_iff.2 hg29) ?_
           refine q1 _ ?_
           refine step (v := vb ((x18.Then.length : Int) == 0)) (aO (b := (!r28)) rfl hg29 rfl) ?_
           have hh := ar hv
           subst hh
           exact nR []
    by_cases hc32 : y30 = true
    ·
     replace h := aJ hc32 h
     refine aV (t := y30) rfl hc32 ?_
     refine al ⟨tab [(2, vi 11)], ac [], 0⟩ ?_ ?_
     ·
      refine q1 _ ?_
      exact nR []
     obtain ⟨r33, kr33, hr⟩ := cM (o := some 11) (g := Br.ret) h
     subst hr
     have h := kr33
     have hh := ar h
     subst hh
     refine aZ ?_
     refine And.intro (fun hn => nomatch hn) ?_
     intro hq
     have hq := hq.symm
     subst hq
     show FQ _ _ _ _
     exact bp (.inr rfl) (bo (v := vi 11) rfl rfl) (RV.d trivial)
    ·
     replace h := aK hc32 h
     refine aW (t := y30) rfl hc32 ?_
     refine bq ?_
     have hh := ar h
     subst hh
     refine bM ⟨tab [(1, dV a0), (3, vi (i12 + 1))], ac [], 0⟩ ?_ ?_
     ·
      refine q1 _ ?_
      refine step (v := vi (i12 + 1)) (c8 (c9 hinv15 hgo14 hB13) rfl rfl) ?_
      refine q1 _ ?_
      exact nR []
     exact And.intro rfl rfl
   ·
    rintro i12 ⟨⟩ hinv15 hgo14
    show aN _ _ _ _ _ ⟨tab [(1, dV a0), (3, vi i12)], ac [], 0⟩
    have hc16 : ¬ (decide (i12 < (a0.Rules.length : Int)) = true) := fun hq => hgo14 (of_decide_eq_true hq)
    refine aL ?_
    refine al ⟨tab [(1, dV a0), (3, vi i12), (44, vb (decide (i12 < (a0.Rules.length : Int))))], ac [], 0⟩ ?_ ?_
    ·
     iterate 3 refine q1 _ ?_
     refine step (v := vi (a0.Rules.length : Int)) (bK (xs := a0.Rules) (e := fH) rfl) ?_
     refine q1 _ ?_
     exact nR []
    refine aW (t := decide (i12 < (a0.Rules.length : Int))) rfl hc16 ?_
    refine bn (s0 := ⟨tab [], ac [], 0⟩) (nr []) ?_
    refine cT ?_
    exact And.intro rfl rfl
   ·
    intro r' hq
    subst hq
    exact ar h
   rintro ⟨⟩ rfl
   refine al ⟨tab [(2, vi 0)], ac [], 0⟩ ?_ ?_
   ·
    refine q1 _ ?_
    exact nR []
   have hh := ar h
   subst hh
   refine aZ ?_
   show FQ _ _ _ _
   exact bp (.inr rfl) (bo (v := vi 0) rfl rfl) (RV.d trivial)
theorem yO {a0 : ah} {r : Bool} (h : lr a0 = some r) : PCall Try.prog 27 [a8 a0] (.bool r) := by
 refine PCall.introN xO (show 1 ≤ 8 by decide) ?_
 refine bn (s0 := ⟨tab [(0, vs1 a0)], ac [], 0⟩) (nr []) ?_
 refine al ⟨tab [(1, aH a0)], ac [], 0⟩ ?_ ?_
 ·
  iterate 2 refine q1 _ ?_
  exact nR []
 obtain ⟨l1, hl1, h⟩ := aw h
 obtain ⟨r2, hr2, h⟩ := aw h
 refine al ⟨tab [(2, vb (r2 == 0))], ac [], 0⟩ ?_ ?_
 ·
  refine step (v := .loc 0 0 l1.length) (σ' := (ak (ac []) 0 (some (.lst false none (List.map (D.int .u16) l1))))) (n' := 1) (my (e := (D.int .u16)) (z := 0) hl1 rfl rfl (mz hl1)) ?_
  iterate 2 refine q1 _ ?_
  refine aX (r := .int .i64 r2) (mu (kP (cN (jO (xs := l1) (e := (D.int .u16)) rfl rfl) (cN dE (cN dE (cN dE (cN dE (cN dE jN))))))) (cF.aggs (by exact ⟨.refl _, .refl _, .refl _, .refl _, .refl _, .refl _, trivial⟩)) aG.nil') (yN hr2) ?_
  iterate 2 refine q1 _ ?_
  exact nR []
 have hh := ar h
 subst hh
 refine aZ ?_
 show FQ _ _ _ _
 exact bp (.inr rfl) (bo (v := vb (r2 == 0)) rfl rfl) (RV.d trivial)
theorem yP {a0 : (List (A8 Int))} {a1 : (List (A8 Int))} {r : Bool} (h : ls a0 a1 = some r) : PCall Try.prog 16 [eL (some 8) (eA8 (D.int .u16)) a0, eL (some 8) (eA8 (D.int .u16)) a1] (.bool r) := by
 refine PCall.introN xR (show 2 ≤ 26 by decide) ?_
 refine bn (s0 := ⟨tab [(0, .d (eL (some 8) (eA8 (D.int .u16)) a0)), (1, .d (eL (some 8) (eA8 (D.int .u16)) a1))], ac [], 0⟩) (nr []) ?_
 refine al ⟨tab [(0, .d (eL (some 8) (eA8 (D.int .u16)) a0)), (1, .d (eL (some 8) (eA8 (D.int .u16)) a1))], ac [], 0⟩ ?_ ?_
 ·
  refine q1 _ ?_
  exact nR []
 refine aL ?_
 refine al ⟨tab [(0, .d (eL (some 8) (eA8 (D.int .u16)) a0)), (1, .d (eL (some 8) (eA8 (D.int .u16)) a1)), (10, vb ((a0.length : Int) != (a1.length : Int)))], ac [], 0⟩ ?_ ?_
 ·
  refine q1 _ ?_
  refine step (v := vi (a0.length : Int)) (bK (xs := a0) (e := (eA8 (D.int .u16))) rfl) ?_
  refine q1 _ ?_
  refine step (v := vi (a1.length : Int)) (bK (xs := a1) (e := (eA8 (D.int .u16))) rfl) ?_
  refine q1 _ ?_
  exact nR []
 by_cases hc1 : ((a0.length : Int) != (a1.length : Int)) = true
 ·
  replace h := aJ hc1 h
  refine aV (t := ((a0.length : Int) != (a1.length : Int))) rfl hc1 ?_
  refine al ⟨tab [(4, vb false)], ac [], 0⟩ ?_ ?_
  ·
   refine q1 _ ?_
   exact nR []
  have hh := ar h
  subst hh
  refine aZ ?_
  show FQ _ _ _ _
  exact bp (.inr rfl) (bo (v := vb false) rfl rfl) (RV.d trivial)
 ·
  replace h := aK hc1 h
  refine aW (t := ((a0.length : Int) != (a1.length : Int))) rfl hc1 ?_
  refine bq ?_
  refine aL ?_
  refine al ⟨tab [(0, .d (eL (some 8) (eA8 (D.int .u16)) a0)), (1, .d (eL (some 8) (eA8 (D.int .u16)) a1)), (5, vi 0)], ac [], 0⟩ ?_ ?_
  ·
   refine q1 _ ?_
   exact nR []
  obtain ⟨q11, hl, h⟩ := aw h
  refine bI ?_
  refine en (cZ (a0.length : Int)) (fun (i2 : Int) (qq : Unit) => ⟨tab [(0, .d (eL (some 8) (eA8 (D.int .u16)) a0)), (1, .d (eL (some 8) (eA8 (D.int .u16)) a1)), (5, vi i2)], ac [], 0⟩) 0 (fun (qq : Unit) => ⟨tab [], ac [], 0⟩) bO c5 (r := r) hl (by unfold bO; omega) ?_ ?_ ?_ ?_
  ·
   rintro i2 ⟨⟩ xr7 hinv5 hgo4 h
   show aN _ _ _ _ _ ⟨tab [(0, .d (eL (some 8) (eA8 (D.int .u16)) a0)), (1, .d (eL (some 8) (eA8 (D.int .u16)) a1)), (5, vi i2)], ac [], 0⟩
   have hc6 : decide (i2 < (a0.length : Int)) = true := decide_eq_true hgo4
   refine aL ?_
   refine al ⟨tab [(0, .d (eL (some 8) (eA8 (D.int .u16)) a0)), (1, .d (eL (some 8) (eA8 (D.int .u16)) a1)), (5, vi i2), (13, vi (a0.length : Int)), (14, vb (decide (i2 < (a0.length : Int))))], ac [], 0⟩ ?_ ?_
   ·
    iterate 2 refine q1 _ ?_
    refine step (v := vi (a0.length : Int)) (bK (xs := a0) (e := (eA8 (D.int .u16))) rfl) ?_
    refine q1 _ ?_
    exact nR []
   refine df 13 rfl fun hB3 => ?_
   refine aV (t := decide (i2 < (a0.length : Int))) rfl hc6 ?_
   refine bq ?_
   refine aL ?_
   refine bI ?_
   obtain ⟨x8, hx8, h⟩ := aw h
   obtain ⟨x9, hx9, h⟩ := aw h
   refine al ⟨tab [(0, .d (eL (some 8) (eA8 (D.int .u16)) a0)), (1, .d (eL (some 8) (eA8 (D.int .u16)) a1)), (5, vi i2), (25, vb (!(x8 == x9)))], ac [], 0⟩ ?_ ?_
   ·
    iterate 2 refine q1 _ ?_
    refine step (v := .d (.cptr (some 8) (eA8 (D.int .u16) x8) 0)) (du (xs := a0) (e := (eA8 (D.int .u16))) hx8 rfl rfl) ?_
    iterate 3 refine q1 _ ?_
    refine step (v := .d (.cptr (some 8) (eA8 (D.int .u16) x9) 0)) (du (xs := a1) (e := (eA8 (D.int .u16))) hx9 rfl rfl) ?_
    refine q1 _ ?_
    refine step (v := vb (!(x8 == x9))) (kM (neg := true) rfl rfl (lI x8 x9)) ?_
    exact nR []
   by_cases hc10 : (!(x8 == x9)) = true
   ·
    replace h := aJ hc10 h
    refine aV (t := (!(x8 == x9))) rfl hc10 ?_
    refine al ⟨tab [(4, vb false)], ac [], 0⟩ ?_ ?_
    ·
     refine q1 _ ?_
     exact nR []
    obtain ⟨r11, kr11, hr⟩ := cM (o := some false) (g := Br.ret) h
    subst hr
    have h := kr11
    have hh := ar h
    subst hh
    refine aZ ?_
    refine And.intro (fun hn => nomatch hn) ?_
    intro hq
    have hq := hq.symm
    subst hq
    show FQ _ _ _ _
    exact bp (.inr rfl) (bo (v := vb false) rfl rfl) (RV.d trivial)
   ·
    replace h := aK hc10 h
    refine aW (t := (!(x8 == x9))) rfl hc10 ?_
    refine bq ?_
    have hh := ar h
    subst hh
    refine bM ⟨tab [(0, .d (eL (some 8) (eA8 (D.int .u16)) a0)), (1, .d (eL (some 8) (eA8 (D.int .u16)) a1)), (5, vi (i2 + 1))], ac [], 0⟩ ?_ ?_
    ·
     refine q1 _ ?_
     refine step (v := vi (i2 + 1)) (c8 (c9 hinv5 hgo4 hB3) rfl rfl) ?_
     refine q1 _ ?_
     exact nR []
    exact And.intro rfl rfl
  ·
   rintro i2 ⟨⟩ hinv5 hgo4
   show aN _ _ _ _ _ ⟨tab [(0, .d (eL (some 8) (eA8 (D.int .u16)) a0)), (1, .d (eL (some 8) (eA8 (D.int .u16)) a1)), (5, vi i2)], ac [], 0⟩
   have hc6 : ¬ (decide (i2 < (a0.length : Int)) = true) := fun hq => hgo4 (of_decide_eq_true hq)
   refine aL ?_
   refine al ⟨tab [(0, .d (eL (some 8) (eA8 (D.int .u16)) a0)), (1, .d (eL (some 8) (eA8 (D.int .u16)) a1)), (5, vi i2), (14, vb (decide (i2 < (a0.length : Int))))], ac [], 0⟩ ?_ ?_
   ·
    iterate 2 refine q1 _ ?_
    refine step (v := vi (a0.length : Int)) (bK (xs := a0) (e := (eA8 (D.int .u16))) rfl) ?_
    refine q1 _ ?_
    exact nR []
   refine aW (t := decide (i2 < (a0.length : Int))) rfl hc6 ?_
   refine bn (s0 := ⟨tab [], ac [], 0⟩) (nr []) ?_
   refine cT ?_
   exact And.intro rfl rfl
  ·
   intro r' hq
   subst hq
   exact ar h
  rintro ⟨⟩ rfl
  refine al ⟨tab [(4, vb true)], ac [], 0⟩ ?_ ?_
  ·
   refine q1 _ ?_
   exact nR []
  have hh := ar h
  subst hh
  refine aZ ?_
  show FQ _ _ _ _
  exact bp (.inr rfl) (bo (v := vb true) rfl rfl) (RV.d trivial)
theorem ov {a0 : (List ah)} {r : Bool} (h : i4 a0 = some r) : PCall Try.prog 18 [eL (some 4) ax a0] (.bool r) := by
 refine PCall.introN xU (show 1 ≤ 25 by decide) ?_
 refine bn (s0 := ⟨tab [(0, aq a0)], ac [], 0⟩) (nr []) ?_
 refine al ⟨tab [(0, aq a0)], ac [], 0⟩ ?_ ?_
 ·
  refine q1 _ ?_
  exact nR []
 refine aL ?_
 refine al ⟨tab [(5, aq a0), (6, vi (a0.length : Int)), (7, vi 0)], ac [], 0⟩ ?_ ?_
 ·
  refine q1 _ ?_
  refine step (v := vi (a0.length : Int)) (bK (xs := a0) (e := ax) rfl) ?_
  refine q1 _ ?_
  exact nR []
 obtain ⟨q16, hl, h⟩ := aw h
 refine bI ?_
 refine en (cZ (a0.length : Int)) (fun (i1 : Int) (qq : Unit) => ⟨tab [(5, aq a0), (6, vi (a0.length : Int)), (7, vi i1)], ac [], 0⟩) 0 (fun (qq : Unit) => ⟨tab [], ac [], 0⟩) bO c5 (r := r) hl (by unfold bO; omega) ?_ ?_ ?_ ?_
 ·
  rintro i1 ⟨⟩ xr6 hinv4 hgo3 h
  show aN _ _ _ _ _ ⟨tab [(5, aq a0), (6, vi (a0.length : Int)), (7, vi i1)], ac [], 0⟩
  have hc5 : decide (i1 < (a0.length : Int)) = true := decide_eq_true hgo3
  refine al ⟨tab [(5, aq a0), (6, vi (a0.length : Int)), (7, vi i1), (8, vb (decide (i1 < (a0.length : Int))))], ac [], 0⟩ ?_ ?_
  ·
   refine q1 _ ?_
   exact nR []
  refine df 6 rfl fun hB2 => ?_
  refine aL ?_
  refine aV (t := decide (i1 < (a0.length : Int))) rfl hc5 ?_
  refine bq ?_
  refine aL ?_
  refine bI ?_
  obtain ⟨x7, hx7, h⟩ := aw h
  refine al ⟨tab [(4, .ptr 0 0 0), (5, aq a0), (6, vi (a0.length : Int)), (7, vi i1)], ac [(0, cb x7)], 1⟩ ?_ ?_
  ·
   refine step (v := aH x7) (dS (xs := a0) (e := ax) hx7 rfl rfl (bD _)) ?_
   refine q1 _ ?_
   refine step (v := .ptr 0 0 0) (σ' := (ak (ac []) 0 (some (aY)))) (n' := 1) rfl ?_
   refine step (v := V.undef) (σ' := (ak (ak (ac []) 0 (some (aY))) 0 (some (cb x7)))) (n' := 1) rfl ?_
   exact nR [0]
  obtain ⟨r8, hr8, h⟩ := aw h
  obtain ⟨y13, hv, h⟩ := aw h
  refine al ⟨tab [(5, aq a0), (6, vi (a0.length : Int)), (7, vi i1), (23, vb y13)], ac [], 0⟩ ?_ ?_
  ·
   refine step (v := vs1 x7) (bt (ds := [.int .i64 x7.Op, .int .i64 x7.F, .int .u16 x7.N, eL (some 4) ax x7.Kids]) rfl rfl (show 4 ≤ 4 by decide) rfl) ?_
   refine aX (r := .bool r8) (aE aG.nil') (yO hr8) ?_
   iterate 2 refine q1 _ ?_
   by_cases hg9 : (!r8) = true
   ·
    replace hv := aJ hg9 hv
    iterate 3 refine qX (!r8) (by rw [hg9]; decide) ?_
    refine step (v := vb true) (aP (b := (!r8)) rfl hg9 rfl) ?_
    refine q1 _ ?_
    iterate 3 refine qX true (by decide) ?_
    refine step (v := vb true) (aP (b := true) rfl rfl rfl) ?_
    have hh := ar hv
    subst hh
    exact nR []
   ·
    replace hv := aK hg9 hv
    obtain ⟨r10, hr10, hv⟩ := aw hv
    refine qG (!r8) (Bool.eq_false_iff.2 hg9) ?_
    refine step (v := vs1 x7) (bt (ds := [.int .i64 x7.Op, .int .i64 x7.F, .int .u16 x7.N, eL (some 4) ax x7.Kids]) rfl rfl (show 4 ≤ 4 by decide) rfl) ?_
    refine qG (!r8) (Bool.eq_false_iff.2 hg9) ?_
    refine aX (r := .int .i64 r10) (aE aG.nil') (rS hr10) ?_
    refine qG (!r8) (Bool.eq_false_iff.2 hg9) ?_
    refine q1 _ ?_
    refine step (v := vb (decide (r10 > 40))) (aO (b := (!r8)) rfl hg9 rfl) ?_
    refine q1 _ ?_
    by_cases hg11 : decide (r10 > 40) = true
    ·
     replace hv := aJ hg11 hv
     iterate 3 refine qX (decide (r10 > 40)) (by rw [hg11]; decide) ?_
     refine step (v := vb true) (aP (b := decide (r10 > 40)) rfl hg11 rfl) ?_
     have hh := ar hv
     subst hh
     exact nR []
    ·
     replace hv := aK hg11 hv
     obtain ⟨r12, hr12, hv⟩ := aw hv
     refine qG (decide (r10 > 40)) (Bool.eq_false_iff.2 hg11) ?_
     refine step (v := vs1 x7) (bt (ds := [.int .i64 x7.Op, .int .i64 x7.F, .int .u16 x7.N, eL (some 4) ax x7.Kids]) rfl rfl (show 4 ≤ 4 by decide) rfl) ?_
     refine qG (decide (r10 > 40)) (Bool.eq_false_iff.2 hg11) ?_
     refine aX (r := .int .i64 r12) (aE aG.nil') (rU hr12) ?_
     refine qG (decide (r10 > 40)) (Bool.eq_false_iff.2 hg11) ?_
     refine q1 _ ?_
     refine step (v := vb (decide (r12 > 12))) (aO (b := decide (r10 > 40)) rfl hg11 rfl) ?_
     have hh := ar hv
     subst hh
     exact nR []
  by_cases hc15 : y13 = true
  ·
   replace h := aJ hc15 h
   refine aV (t := y13) rfl hc15 ?_
   refine al ⟨tab [(2, vb false)], ac [], 0⟩ ?_ ?_
   ·
    refine q1 _ ?_
    exact nR []
   obtain ⟨r16, kr16, hr⟩ := cM (o := some false) (g := Br.ret) h
   subst hr
   have h := kr16
   have hh := ar h
   subst hh
   refine aZ ?_
   refine And.intro (fun hn => nomatch hn) ?_
   intro hq
   have hq := hq.symm
   subst hq
   show FQ _ _ _ _
   exact bp (.inr rfl) (bo (v := vb false) rfl rfl) (RV.d trivial)
  ·
   replace h := aK hc15 h
   refine aW (t := y13) rfl hc15 ?_
   refine bq ?_
   have hh := ar h
   subst hh
   refine bM ⟨tab [(5, aq a0), (6, vi (a0.length : Int)), (7, vi (i1 + 1))], ac [], 0⟩ ?_ ?_
   ·
    refine step (v := vi (i1 + 1)) (c8 (c9 hinv4 hgo3 hB2) rfl rfl) ?_
    refine q1 _ ?_
    exact nR []
   exact And.intro rfl rfl
 ·
  rintro i1 ⟨⟩ hinv4 hgo3
  show aN _ _ _ _ _ ⟨tab [(5, aq a0), (6, vi (a0.length : Int)), (7, vi i1)], ac [], 0⟩
  have hc5 : ¬ (decide (i1 < (a0.length : Int)) = true) := fun hq => hgo3 (of_decide_eq_true hq)
  refine al ⟨tab [(5, aq a0), (6, vi (a0.length : Int)), (7, vi i1), (8, vb (decide (i1 < (a0.length : Int))))], ac [], 0⟩ ?_ ?_
  ·
   refine q1 _ ?_
   exact nR []
  refine aL ?_
  refine aW (t := decide (i1 < (a0.length : Int))) rfl hc5 ?_
  refine bn (s0 := ⟨tab [], ac [], 0⟩) (nr []) ?_
  refine cT ?_
  exact And.intro rfl rfl
 ·
  intro r' hq
  subst hq
  exact ar h
 rintro ⟨⟩ rfl
 refine al ⟨tab [(2, vb true)], ac [], 0⟩ ?_ ?_
 ·
  refine q1 _ ?_
  exact nR []
 have hh := ar h
 subst hh
 refine aZ ?_
 show FQ _ _ _ _
 exact bp (.inr rfl) (bo (v := vb true) rfl rfl) (RV.d trivial)
theorem jl {a0 : (List Int)} {a1 : (A8 Int)} {a2 : (List ah)} {r : Bool} (h : gA a0 a1 a2 = some r) : PCall Try.prog 19 [eL none (D.int .u16) a0, eA8 (D.int .u16) a1, eL (some 4) ax a2] (.bool r) := by
 refine PCall.introN xX (show 3 ≤ 42 by decide) ?_
 refine bn (s0 := ⟨tab [(0, aU a0), (1, .d (eA8 (D.int .u16) a1)), (2, aq a2)], ac [], 0⟩) (nr []) ?_
 refine al ⟨tab [(0, aU a0), (2, aq a2), (4, .d (.cptr (some 8) (eA8 (D.int .u16) a1) 0))], ac [], 0⟩ ?_ ?_
 ·
  iterate 2 refine q1 _ ?_
  exact nR []
 refine al ⟨tab [(0, aU a0), (2, aq a2), (4, .d (.cptr (some 8) (eA8 (D.int .u16) a1) 0)), (7, .d (eL (some 8) (eA8 (D.int .u16)) ([] : List (A8 Int))))], ac [], 0⟩ ?_ ?_
 ·
  refine q1 _ ?_
  exact nR []
 refine aL ?_
 refine al ⟨tab [(0, aU a0), (4, .d (.cptr (some 8) (eA8 (D.int .u16) a1) 0)), (7, .d (eL (some 8) (eA8 (D.int .u16)) ([] : List (A8 Int)))), (12, aq a2), (13, vi (a2.length : Int)), (14, vi 0)], ac [], 0⟩ ?_ ?_
 ·
  refine q1 _ ?_
  refine step (v := vi (a2.length : Int)) (bK (xs := a2) (e := ax) rfl) ?_
  refine q1 _ ?_
  exact nR []
 obtain ⟨q18, hl, h⟩ := aw h
 refine bI ?_
 refine en (cZ (a2.length : Int)) (fun (i2 : Int) (qq : (List (A8 Int))) => ⟨tab [(0, aU a0), (4, .d (.cptr (some 8) (eA8 (D.int .u16) a1) 0)), (7, .d (eL (some 8) (eA8 (D.int .u16)) qq)), (12, aq a2), (13, vi (a2.length : Int)), (14, vi i2)], ac [], 0⟩) 0 (fun (qq : (List (A8 Int))) => ⟨tab [], ac [], 0⟩) bO c5 (r := r) hl (by unfold bO; omega) ?_ ?_ ?_ ?_
 ·
  rintro i2 y1 xr7 hinv5 hgo4 h
  show aN _ _ _ _ _ ⟨tab [(0, aU a0), (4, .d (.cptr (some 8) (eA8 (D.int .u16) a1) 0)), (7, .d (eL (some 8) (eA8 (D.int .u16)) y1)), (12, aq a2), (13, vi (a2.length : Int)), (14, vi i2)], ac [], 0⟩
  have hc6 : decide (i2 < (a2.length : Int)) = true := decide_eq_true hgo4
  refine al ⟨tab [(0, aU a0), (4, .d (.cptr (some 8) (eA8 (D.int .u16) a1) 0)), (7, .d (eL (some 8) (eA8 (D.int .u16)) y1)), (12, aq a2), (13, vi (a2.length : Int)), (14, vi i2), (15, vb (decide (i2 < (a2.length : Int))))], ac [], 0⟩ ?_ ?_
  ·
   refine q1 _ ?_
   exact nR []
  refine df 13 rfl fun hB3 => ?_
  refine aL ?_
  refine aV (t := decide (i2 < (a2.length : Int))) rfl hc6 ?_
  refine bq ?_
  refine aL ?_
  refine bI ?_
  obtain ⟨x8, hx8, h⟩ := aw h
  refine al ⟨tab [(0, aU a0), (4, .d (.cptr (some 8) (eA8 (D.int .u16) a1) 0)), (7, .d (eL (some 8) (eA8 (D.int .u16)) y1)), (8, vi i2), (9, .ptr 0 0 0), (12, aq a2), (13, vi (a2.length : Int)), (14, vi i2)], ac [(0, cb x8)], 1⟩ ?_ ?_
  ·
   refine q1 _ ?_
   refine step (v := aH x8) (dS (xs := a2) (e := ax) hx8 rfl rfl (bD _)) ?_
   refine q1 _ ?_
   refine step (v := .ptr 0 0 0) (σ' := (ak (ac []) 0 (some (aY)))) (n' := 1) rfl ?_
   refine q1 _ ?_
   refine step (v := V.undef) (σ' := (ak (ak (ac []) 0 (some (aY))) 0 (some (cb x8)))) (n' := 1) rfl ?_
   exact nR [0]
  obtain ⟨r9, hr9, h⟩ := aw h
  refine al ⟨tab [(0, aU a0), (4, .d (.cptr (some 8) (eA8 (D.int .u16) a1) 0)), (7, .d (eL (some 8) (eA8 (D.int .u16)) y1)), (8, vi i2), (10, .d (eL (some 8) (eA8 (D.int .u16)) r9.1)), (11, vi r9.2), (12, aq a2), (13, vi (a2.length : Int)), (14, vi i2)], ac [], 0⟩ ?_ ?_
  ·
   refine step (v := vs1 x8) (bt (ds := [.int .i64 x8.Op, .int .i64 x8.F, .int .u16 x8.N, eL (some 4) ax x8.Kids]) rfl rfl (show 4 ≤ 4 by decide) rfl) ?_
   iterate 2 refine q1 _ ?_
   refine aX (r := .tup [eL (some 8) (eA8 (D.int .u16)) r9.1, .int .i64 r9.2]) (aE (aE (aE aG.nil'))) (lK hr9) ?_
   iterate 5 refine q1 _ ?_
   exact nR []
  refine aL ?_
  refine al ⟨tab [(0, aU a0), (4, .d (.cptr (some 8) (eA8 (D.int .u16) a1) 0)), (7, .d (eL (some 8) (eA8 (D.int .u16)) y1)), (8, vi i2), (10, .d (eL (some 8) (eA8 (D.int .u16)) r9.1)), (11, vi r9.2), (12, aq a2), (13, vi (a2.length : Int)), (14, vi i2), (27, vb (r9.2 == 24))], ac [], 0⟩ ?_ ?_
  ·
   iterate 2 refine q1 _ ?_
   exact nR []
  by_cases hc10 : (r9.2 == 24) = true
  ·
   replace h := aJ hc10 h
   refine aV (t := (r9.2 == 24)) rfl hc10 ?_
   refine al ⟨tab [(6, vb true)], ac [], 0⟩ ?_ ?_
   ·
    refine q1 _ ?_
    exact nR []
   obtain ⟨r11, kr11, hr⟩ := cM (o := some true) (g := Br.ret) h
   subst hr
   have h := kr11
   have hh := ar h
   subst hh
   refine aZ ?_
   refine And.intro (fun hn => nomatch hn) ?_
   intro hq
   have hq := hq.symm
   subst hq
   show FQ _ _ _ _
   exact bp (.inr rfl) (bo (v := vb true) rfl rfl) (RV.d trivial)
  ·
   replace h := aK hc10 h
   refine aW (t := (r9.2 == 24)) rfl hc10 ?_
   refine bq ?_
   refine aL ?_
   obtain ⟨y14, hv, h⟩ := aw h
   refine al ⟨tab [(0, aU a0), (4, .d (.cptr (some 8) (eA8 (D.int .u16) a1) 0)), (10, .d (eL (some 8) (eA8 (D.int .u16)) r9.1)), (12, aq a2), (13, vi (a2.length : Int)), (14, vi i2), (39, vb y14)], ac [], 0⟩ ?_ ?_
   ·
    iterate 3 refine q1 _ ?_
    by_cases hg11 : (r9.2 != 0) = true
    ·
     replace hv := aJ hg11 hv
     iterate 3 refine qX (r9.2 != 0) (by rw [hg11]; decide) ?_
     refine bR rfl ?_
     refine bR rfl ?_
     refine bR rfl ?_
     refine bR rfl ?_
     refine qX (r9.2 != 0) (by rw [hg11]; decide) ?_
     refine step (v := vb true) (aP (b := (r9.2 != 0)) rfl hg11 rfl) ?_
     have hh := ar hv
     subst hh
     exact nR []
    ·
     replace hv := aK hg11 hv
     refine qG (r9.2 != 0) (Bool.eq_false_iff.2 hg11) ?_
     refine q1 _ ?_
     refine qG (r9.2 != 0) (Bool.eq_false_iff.2 hg11) ?_
     refine q1 _ ?_
     refine qG (r9.2 != 0) (Bool.eq_false_iff.2 hg11) ?_
     refine q1 _ ?_
     by_cases hg12 : decide (i2 > 0) = true
     ·
      replace hv := aJ hg12 hv
      obtain ⟨r13, hr13, hv⟩ := aw hv
      refine qG _ hg12 ?_
      refine q1 _ ?_
      refine qG _ hg12 ?_
      refine q1 _ ?_
      refine qG _ hg12 ?_
      refine aX (r := .bool r13) (aE (aE aG.nil')) (yP hr13) ?_
      refine qG _ hg12 ?_
      refine q1 _ ?_
      refine qG (r9.2 != 0) (Bool.eq_false_iff.2 hg11) ?_
      refine step (v := vb (!r13)) (aP (b := decide (i2 > 0)) rfl hg12 rfl) ?_
      refine step (v := vb (!r13)) (aO (b := (r9.2 != 0)) rfl hg11 rfl) ?_
      have hh := ar hv
      subst hh
      exact nR []
     ·
      replace hv := aK hg12 hv
      iterate 4 refine qX _ hg12 ?_
      refine qG (r9.2 != 0) (Bool.eq_false_iff.2 hg11) ?_
      refine step (v := vb false) (aO (b := decide (i2 > 0)) rfl hg12 rfl) ?_
      refine step (v := vb false) (aO (b := (r9.2 != 0)) rfl hg11 rfl) ?_
      have hh := ar hv
      subst hh
      exact nR []
   by_cases hc16 : y14 = true
   ·
    replace h := aJ hc16 h
    refine aV (t := y14) rfl hc16 ?_
    refine al ⟨tab [(6, vb false)], ac [], 0⟩ ?_ ?_
    ·
     refine q1 _ ?_
     exact nR []
    obtain ⟨r17, kr17, hr⟩ := cM (o := some false) (g := Br.ret) h
    subst hr
    have h := kr17
    have hh := ar h
    subst hh
    refine aZ ?_
    refine And.intro (fun hn => nomatch hn) ?_
    intro hq
    have hq := hq.symm
    subst hq
    show FQ _ _ _ _
    exact bp (.inr rfl) (bo (v := vb false) rfl rfl) (RV.d trivial)
   ·
    replace h := aK hc16 h
    refine aW (t := y14) rfl hc16 ?_
    refine bq ?_
    refine bM ⟨tab [(0, aU a0), (4, .d (.cptr (some 8) (eA8 (D.int .u16) a1) 0)), (7, .d (eL (some 8) (eA8 (D.int .u16)) r9.1)), (12, aq a2), (13, vi (a2.length : Int)), (14, vi i2)], ac [], 0⟩ ?_ ?_
    ·
     iterate 2 refine q1 _ ?_
     exact nR []
    have hh := ar h
    subst hh
    refine bM ⟨tab [(0, aU a0), (4, .d (.cptr (some 8) (eA8 (D.int .u16) a1) 0)), (7, .d (eL (some 8) (eA8 (D.int .u16)) r9.1)), (12, aq a2), (13, vi (a2.length : Int)), (14, vi (i2 + 1))], ac [], 0⟩ ?_ ?_
    ·
     refine step (v := vi (i2 + 1)) (c8 (c9 hinv5 hgo4 hB3) rfl rfl) ?_
     refine q1 _ ?_
     exact nR []
    exact And.intro rfl rfl
 ·
  rintro i2 y1 hinv5 hgo4
  show aN _ _ _ _ _ ⟨tab [(0, aU a0), (4, .d (.cptr (some 8) (eA8 (D.int .u16) a1) 0)), (7, .d (eL (some 8) (eA8 (D.int .u16)) y1)), (12, aq a2), (13, vi (a2.length : Int)), (14, vi i2)], ac [], 0⟩
  have hc6 : ¬ (decide (i2 < (a2.length : Int)) = true) := fun hq => hgo4 (of_decide_eq_true hq)
  refine al ⟨tab [(0, aU a0), (4, .d (.cptr (some 8) (eA8 (D.int .u16) a1) 0)), (7, .d (eL (some 8) (eA8 (D.int .u16)) y1)), (12, aq a2), (13, vi (a2.length : Int)), (14, vi i2), (15, vb (decide (i2 < (a2.length : Int))))], ac [], 0⟩ ?_ ?_
  ·
   refine q1 _ ?_
   exact nR []
  refine aL ?_
  refine aW (t := decide (i2 < (a2.length : Int))) rfl hc6 ?_
  refine bn (s0 := ⟨tab [], ac [], 0⟩) (nr []) ?_
  refine cT ?_
  exact And.intro rfl rfl
 ·
  intro r' hq
  subst hq
  exact ar h
 rintro z17 rfl
 refine al ⟨tab [(6, vb true)], ac [], 0⟩ ?_ ?_
 ·
  refine q1 _ ?_
  exact nR []
 have hh := ar h
 subst hh
 refine aZ ?_
 show FQ _ _ _ _
 exact bp (.inr rfl) (bo (v := vb true) rfl rfl) (RV.d trivial)
theorem c_law07_PolicyLaws {a0 : (A3 (List law05_Step))} {a1 : (List Int)} {a2 : (A8 Int)} {r : Bool} (h : law07_PolicyLaws a0 a1 a2 = some r) : PCall Try.prog 4 [eA3 (eL (some 4) elaw05_Step) a0, eL none (D.int .u16) a1, eA8 (D.int .u16) a2] (.bool r) := by
 refine PCall.introN xZ (show 3 ≤ 188 by decide) ?_
 refine bn (s0 := ⟨tab [(0, .d (eA3 (eL (some 4) elaw05_Step) a0)), (1, aU a1), (2, .d (eA8 (D.int .u16) a2))], ac [], 0⟩) (nr []) ?_
 refine al ⟨tab [(1, aU a1), (3, .d (.cptr (some 3) (eA3 (eL (some 4) elaw05_Step) a0) 0)), (5, .d (.cptr (some 8) (eA8 (D.int .u16) a2) 0))], ac [], 0⟩ ?_ ?_
 ·
  iterate 3 refine q1 _ ?_
  exact nR []
 refine aL ?_
 obtain ⟨r1, hr1, h⟩ := aw h
 refine al ⟨tab [(1, aU a1), (3, .d (.cptr (some 3) (eA3 (eL (some 4) elaw05_Step) a0) 0)), (5, .d (.cptr (some 8) (eA8 (D.int .u16) a2) 0)), (17, vb (!r1))], ac [], 0⟩ ?_ ?_
 ·
  refine aX (r := .bool r1) aG.nil' (yG hr1) ?_
  refine q1 _ ?_
  exact nR []
 by_cases hc2 : (!r1) = true
 ·
  replace h := aJ hc2 h
  refine aV (t := (!r1)) rfl hc2 ?_
  refine al ⟨tab [(6, vb false)], ac [], 0⟩ ?_ ?_
  ·
   refine q1 _ ?_
   exact nR []
  have hh := ar h
  subst hh
  refine aZ ?_
  show FQ _ _ _ _
  exact bp (.inr rfl) (bo (v := vb false) rfl rfl) (RV.d trivial)
 ·
  replace h := aK hc2 h
  refine aW (t := (!r1)) rfl hc2 ?_
  refine bq ?_
  refine aL ?_
  refine al ⟨tab [(1, aU a1), (3, .d (.cptr (some 3) (eA3 (eL (some 4) elaw05_Step) a0) 0)), (5, .d (.cptr (some 8) (eA8 (D.int .u16) a2) 0)), (20, vb (decide ((a1.length : Int) > 6)))], ac [], 0⟩ ?_ ?_
  ·
   refine q1 _ ?_
   refine step (v := vi (a1.length : Int)) (bK (xs := a1) (e := (D.int .u16)) rfl) ?_
   refine q1 _ ?_
   exact nR []
  by_cases hc3 : decide ((a1.length : Int) > 6) = true
  ·
   replace h := aJ hc3 h
   refine aV (t := decide ((a1.length : Int) > 6)) rfl hc3 ?_
   refine al ⟨tab [(6, vb true)], ac [], 0⟩ ?_ ?_
   ·
    refine q1 _ ?_
    exact nR []
   have hh := ar h
   subst hh
   refine aZ ?_
   show FQ _ _ _ _
   exact bp (.inr rfl) (bo (v := vb true) rfl rfl) (RV.d trivial)
  ·
   replace h := aK hc3 h
   refine aW (t := decide ((a1.length : Int) > 6)) rfl hc3 ?_
   refine bq ?_
   refine al ⟨tab [(1, aU a1), (3, .d (.cptr (some 3) (eA3 (eL (some 4) elaw05_Step) a0) 0)), (5, .d (.cptr (some 8) (eA8 (D.int .u16) a2) 0)), (7, .ptr 0 0 0)], ac [(0, f5)], 1⟩ ?_ ?_
   ·
    refine step (v := .ptr 0 0 0) (σ' := (ak (ac []) 0 (some (f5)))) (n' := 1) rfl ?_
    exact nR [0]
   refine aL ?_
   refine al ⟨tab [(1, aU a1), (3, .d (.cptr (some 3) (eA3 (eL (some 4) elaw05_Step) a0) 0)), (5, .d (.cptr (some 8) (eA8 (D.int .u16) a2) 0)), (7, .ptr 0 0 0), (21, vi 0)], ac [(0, f5)], 1⟩ ?_ ?_
   ·
    refine q1 _ ?_
    exact nR [0]
   refine bI ?_
   refine gN ?_
   refine al ⟨tab [(1, aU a1), (3, .d (.cptr (some 3) (eA3 (eL (some 4) elaw05_Step) a0) 0)), (5, .d (.cptr (some 8) (eA8 (D.int .u16) a2) 0)), (7, .ptr 0 0 0), (21, vi 0), (22, vb true)], ac [(0, f5)], 1⟩ ?_ ?_
   ·
    refine q1 _ ?_
    exact nR [0]
   refine aL ?_
   refine aV (t := true) rfl rfl ?_
   refine bq ?_
   refine aL ?_
   refine bI ?_
   refine al ⟨tab [(1, aU a1), (3, .d (.cptr (some 3) (eA3 (eL (some 4) elaw05_Step) a0) 0)), (5, .d (.cptr (some 8) (eA8 (D.int .u16) a2) 0)), (7, .ptr 0 0 0), (8, vi 0), (21, vi 0)], ac [(0, f5)], 1⟩ ?_ ?_
   ·
    iterate 2 refine q1 _ ?_
    exact nR [0]
   obtain ⟨r4, hr4, h⟩ := aw h
   refine al ⟨tab [(1, aU a1), (3, .d (.cptr (some 3) (eA3 (eL (some 4) elaw05_Step) a0) 0)), (5, .d (.cptr (some 8) (eA8 (D.int .u16) a2) 0)), (7, .ptr 0 0 0), (8, vi 0), (9, .ptr 1 0 0), (10, vb r4.2), (21, vi 0)], ac [(0, f5), (1, .var [vi r4.1.Op, vi r4.1.F, vh r4.1.N, aq r4.1.Kids])], 2⟩ ?_ ?_
   ·
    iterate 3 refine q1 _ ?_
    refine aX (r := .tup [a8 r4.1, .bool r4.2]) (aE aG.nil') (ot hr4) ?_
    iterate 3 refine q1 _ ?_
    refine step (v := .ptr 1 0 0) (σ' := (ak (ac [(0, f5)]) 1 (some (aY)))) (n' := 2) rfl ?_
    refine step (v := V.undef) (σ' := (ak (ak (ac [(0, f5)]) 1 (some (aY))) 1 (some (.var [vi r4.1.Op, vi r4.1.F, vh r4.1.N, aq r4.1.Kids])))) (n' := 2) rfl ?_
    refine q1 _ ?_
    exact nR [0, 1]
   refine aL ?_
   obtain ⟨y7, hv, h⟩ := aw h
   refine al ⟨tab [(1, aU a1), (3, .d (.cptr (some 3) (eA3 (eL (some 4) elaw05_Step) a0) 0)), (5, .d (.cptr (some 8) (eA8 (D.int .u16) a2) 0)), (7, .ptr 0 0 0), (8, vi 0), (9, .ptr 1 0 0), (21, vi 0), (38, vb y7)], ac [(0, f5), (1, .var [vi r4.1.Op, vi r4.1.F, vh r4.1.N, aq r4.1.Kids])], 2⟩ ?_ ?_
   ·
    iterate 3 refine q1 _ ?_
    by_cases hg5 : (!r4.2) = true
    ·
     replace hv := aJ hg5 hv
     iterate 4 refine qX (!r4.2) (by rw [hg5]; decide) ?_
     refine step (v := vb true) (aP (b := (!r4.2)) rfl hg5 rfl) ?_
     have hh := ar hv
     subst hh
     exact nR [0, 1]
    ·
     replace hv := aK hg5 hv
     obtain ⟨r6, hr6, hv⟩ := aw hv
     refine qG (!r4.2) (Bool.eq_false_iff.2 hg5) ?_
     refine step (v := vs1 r4.1) (bt (ds := [.int .i64 r4.1.Op, .int .i64 r4.1.F, .int .u16 r4.1.N, eL (some 4) ax r4.1.Kids]) rfl rfl (show 4 ≤ 4 by decide) rfl) ?_
     refine qG (!r4.2) (Bool.eq_false_iff.2 hg5) ?_
     refine step (v := aq ([r4.1] : List ah)) (bT rfl (by simp [eL, bD])) ?_
     refine qG (!r4.2) (Bool.eq_false_iff.2 hg5) ?_
     refine aX (r := .bool r6) (aE aG.nil') (ov hr6) ?_
     refine qG (!r4.2) (Bool.eq_false_iff.2 hg5) ?_
     refine q1 _ ?_
     refine step (v := vb (!r6)) (aO (b := (!r4.2)) rfl hg5 rfl) ?_
     have hh := ar hv
     subst hh
     exact nR [0, 1]
   by_cases hc9 : y7 = true
   ·
    replace h := aJ hc9 h
    refine aV (t := y7) rfl hc9 ?_
    refine al ⟨tab [(6, vb true)], ac [], 0⟩ ?_ ?_
    ·
     refine q1 _ ?_
     exact nR []
    have hh := ar h
    subst hh
    refine aZ ?_
    show FQ _ _ _ _
    exact bp (.inr rfl) (bo (v := vb true) rfl rfl) (RV.d trivial)
   ·
    replace h := aK hc9 h
    refine aW (t := y7) rfl hc9 ?_
    refine bq ?_
    refine bM ⟨tab [(1, aU a1), (3, .d (.cptr (some 3) (eA3 (eL (some 4) elaw05_Step) a0) 0)), (5, .d (.cptr (some 8) (eA8 (D.int .u16) a2) 0)), (7, .ptr 0 0 0), (21, vi 0)], ac [(0, .var [vi r4.1.Op, vi r4.1.F, vh r4.1.N, aq r4.1.Kids, vi 0, vi 0, vh 0, aq [], vi 0, vi 0, vh 0, aq []])], 1⟩ ?_ ?_
    ·
     refine q1 _ ?_
     refine step (v := vs1 r4.1) (bt (ds := [.int .i64 r4.1.Op, .int .i64 r4.1.F, .int .u16 r4.1.N, eL (some 4) ax r4.1.Kids]) rfl rfl (show 4 ≤ 4 by decide) rfl) ?_
     refine q1 _ ?_
     refine step (v := V.undef) (σ' := (ak (ac [(0, f5), (1, .var [vi r4.1.Op, vi r4.1.F, vh r4.1.N, aq r4.1.Kids])]) 0 (some (.var [vi r4.1.Op, vi r4.1.F, vh r4.1.N, aq r4.1.Kids, vi 0, vi 0, vh 0, aq [], vi 0, vi 0, vh 0, aq []])))) (n' := 2) rfl ?_
     exact nR [0]
    refine bM ⟨tab [(1, aU a1), (3, .d (.cptr (some 3) (eA3 (eL (some 4) elaw05_Step) a0) 0)), (5, .d (.cptr (some 8) (eA8 (D.int .u16) a2) 0)), (7, .ptr 0 0 0), (21, vi 1)], ac [(0, .var [vi r4.1.Op, vi r4.1.F, vh r4.1.N, aq r4.1.Kids, vi 0, vi 0, vh 0, aq [], vi 0, vi 0, vh 0, aq []])], 1⟩ ?_ ?_
    ·
     iterate 2 refine q1 _ ?_
     exact nR [0]
    refine gN ?_
    refine al ⟨tab [(1, aU a1), (3, .d (.cptr (some 3) (eA3 (eL (some 4) elaw05_Step) a0) 0)), (5, .d (.cptr (some 8) (eA8 (D.int .u16) a2) 0)), (7, .ptr 0 0 0), (21, vi 1), (22, vb true)], ac [(0, .var [vi r4.1.Op, vi r4.1.F, vh r4.1.N, aq r4.1.Kids, vi 0, vi 0, vh 0, aq [], vi 0, vi 0, vh 0, aq []])], 1⟩ ?_ ?_
    ·
     refine q1 _ ?_
     exact nR [0]
    refine aL ?_
    refine aV (t := true) rfl rfl ?_
    refine bq ?_
    refine aL ?_
    refine bI ?_
    refine al ⟨tab [(1, aU a1), (3, .d (.cptr (some 3) (eA3 (eL (some 4) elaw05_Step) a0) 0)), (5, .d (.cptr (some 8) (eA8 (D.int .u16) a2) 0)), (7, .ptr 0 0 0), (8, vi 1), (21, vi 1)], ac [(0, .var [vi r4.1.Op, vi r4.1.F, vh r4.1.N, aq r4.1.Kids, vi 0, vi 0, vh 0, aq [], vi 0, vi 0, vh 0, aq []])], 1⟩ ?_ ?_
    ·
     iterate 2 refine q1 _ ?_
     exact nR [0]
    obtain ⟨r10, hr10, h⟩ := aw h
    refine al ⟨tab [(1, aU a1), (3, .d (.cptr (some 3) (eA3 (eL (some 4) elaw05_Step) a0) 0)), (5, .d (.cptr (some 8) (eA8 (D.int .u16) a2) 0)), (7, .ptr 0 0 0), (8, vi 1), (9, .ptr 1 0 0), (10, vb r10.2), (21, vi 1)], ac [(0, .var [vi r4.1.Op, vi r4.1.F, vh r4.1.N, aq r4.1.Kids, vi 0, vi 0, vh 0, aq [], vi 0, vi 0, vh 0, aq []]), (1, .var [vi r10.1.Op, vi r10.1.F, vh r10.1.N, aq r10.1.Kids])], 2⟩ ?_ ?_
    ·
     iterate 3 refine q1 _ ?_
     refine aX (r := .tup [a8 r10.1, .bool r10.2]) (aE aG.nil') (ot hr10) ?_
     iterate 3 refine q1 _ ?_
     refine step (v := .ptr 1 0 0) (σ' := (ak (ac [(0, .var [vi r4.1.Op, vi r4.1.F, vh r4.1.N, aq r4.1.Kids, vi 0, vi 0, vh 0, aq [], vi 0, vi 0, vh 0, aq []])]) 1 (some (aY)))) (n' := 2) rfl ?_
     refine step (v := V.undef) (σ' := (ak (ak (ac [(0, .var [vi r4.1.Op, vi r4.1.F, vh r4.1.N, aq r4.1.Kids, vi 0, vi 0, vh 0, aq [], vi 0, vi 0, vh 0, aq []])]) 1 (some (aY))) 1 (some (.var [vi r10.1.Op, vi r10.1.F, vh r10.1.N, aq r10.1.Kids])))) (n' := 2) rfl ?_
     refine q1 _ ?_
     exact nR [0, 1]
    refine aL ?_
    obtain ⟨y13, hv, h⟩ := aw h
    refine al ⟨tab [(1, aU a1), (3, .d (.cptr (some 3) (eA3 (eL (some 4) elaw05_Step) a0) 0)), (5, .d (.cptr (some 8) (eA8 (D.int .u16) a2) 0)), (7, .ptr 0 0 0), (8, vi 1), (9, .ptr 1 0 0), (21, vi 1), (38, vb y13)], ac [(0, .var [vi r4.1.Op, vi r4.1.F, vh r4.1.N, aq r4.1.Kids, vi 0, vi 0, vh 0, aq [], vi 0, vi 0, vh 0, aq []]), (1, .var [vi r10.1.Op, vi r10.1.F, vh r10.1.N, aq r10.1.Kids])], 2⟩ ?_ ?_
    ·
     iterate 3 refine q1 _ ?_
     by_cases hg11 : (!r10.2) = true
     ·
      replace hv := aJ hg11 hv
      iterate 4 refine qX (!r10.2) (by rw [hg11]; decide) ?_
      refine step (v := vb true) (aP (b := (!r10.2)) rfl hg11 rfl) ?_
      have hh := ar hv
      subst hh
      exact nR [0, 1]
     ·
      replace hv := aK hg11 hv
      obtain ⟨r12, hr12, hv⟩ := aw hv
      refine qG (!r10.2) (Bool.eq_false_iff.2 hg11) ?_
      refine step (v := vs1 r10.1) (bt (ds := [.int .i64 r10.1.Op, .int .i64 r10.1.F, .int .u16 r10.1.N, eL (some 4) ax r10.1.Kids]) rfl rfl (show 4 ≤ 4 by decide) rfl) ?_
      refine qG (!r10.2) (Bool.eq_false_iff.2 hg11) ?_
      refine step (v := aq ([r10.1] : List ah)) (bT rfl (by simp [eL, bD])) ?_
      refine qG (!r10.2) (Bool.eq_false_iff.2 hg11) ?_
      refine aX (r := .bool r12) (aE aG.nil') (ov hr12) ?_
      refine qG (!r10.2) (Bool.eq_false_iff.2 hg11) ?_
      refine q1 _ ?_
      refine step (v := vb (!r12)) (aO (b := (!r10.2)) rfl hg11 rfl) ?_
      have hh := ar hv
      subst hh
      exact nR [0, 1]
    by_cases hc15 : y13 = true
    ·
     replace h := aJ hc15 h
     refine aV (t := y13) rfl hc15 ?_
     refine al ⟨tab [(6, vb true)], ac [], 0⟩ ?_ ?_
     ·
      refine q1 _ ?_
      exact nR []
     have hh := ar h
     subst hh
     refine aZ ?_
     show FQ _ _ _ _
     exact bp (.inr rfl) (bo (v := vb true) rfl rfl) (RV.d trivial)
    ·
     replace h := aK hc15 h
     refine aW (t := y13) rfl hc15 ?_
     refine bq ?_
     refine bM ⟨tab [(1, aU a1), (3, .d (.cptr (some 3) (eA3 (eL (some 4) elaw05_Step) a0) 0)), (5, .d (.cptr (some 8) (eA8 (D.int .u16) a2) 0)), (7, .ptr 0 0 0), (21, vi 1)], ac [(0, .var [vi r4.1.Op, vi r4.1.F, vh r4.1.N, aq r4.1.Kids, vi r10.1.Op, vi r10.1.F, vh r10.1.N, aq r10.1.Kids, vi 0, vi 0, vh 0, aq []])], 1⟩ ?_ ?_
     ·
      refine q1 _ ?_
      refine step (v := vs1 r10.1) (bt (ds := [.int .i64 r10.1.Op, .int .i64 r10.1.F, .int .u16 r10.1.N, eL (some 4) ax r10.1.Kids]) rfl rfl (show 4 ≤ 4 by decide) rfl) ?_
      refine q1 _ ?_
      refine step (v := V.undef) (σ' := (ak (ac [(0, .var [vi r4.1.Op, vi r4.1.F, vh r4.1.N, aq r4.1.Kids, vi 0, vi 0, vh 0, aq [], vi 0, vi 0, vh 0, aq []]), (1, .var [vi r10.1.Op, vi r10.1.F, vh r10.1.N, aq r10.1.Kids])]) 0 (some (.var [vi r4.1.Op, vi r4.1.F, vh r4.1.N, aq r4.1.Kids, vi r10.1.Op, vi r10.1.F, vh r10.1.N, aq r10.1.Kids, vi 0, vi 0, vh 0, aq []])))) (n' := 2) rfl ?_
      exact nR [0]
     refine bM ⟨tab [(1, aU a1), (3, .d (.cptr (some 3) (eA3 (eL (some 4) elaw05_Step) a0) 0)), (5, .d (.cptr (some 8) (eA8 (D.int .u16) a2) 0)), (7, .ptr 0 0 0), (21, vi 2)], ac [(0, .var [vi r4.1.Op, vi r4.1.F, vh r4.1.N, aq r4.1.Kids, vi r10.1.Op, vi r10.1.F, vh r10.1.N, aq r10.1.Kids, vi 0, vi 0, vh 0, aq []])], 1⟩ ?_ ?_
     ·
      iterate 2 refine q1 _ ?_
      exact nR [0]
     refine gN ?_
     refine al ⟨tab [(1, aU a1), (3, .d (.cptr (some 3) (eA3 (eL (some 4) elaw05_Step) a0) 0)), (5, .d (.cptr (some 8) (eA8 (D.int .u16) a2) 0)), (7, .ptr 0 0 0), (21, vi 2), (22, vb true)], ac [(0, .var [vi r4.1.Op, vi r4.1.F, vh r4.1.N, aq r4.1.Kids, vi r10.1.Op, vi r10.1.F, vh r10.1.N, aq r10.1.Kids, vi 0, vi 0, vh 0, aq []])], 1⟩ ?_ ?_
     ·
      refine q1 _ ?_
      exact nR [0]
     refine aL ?_
     refine aV (t := true) rfl rfl ?_
     refine bq ?_
     refine aL ?_
     refine bI ?_
     refine al ⟨tab [(1, aU a1), (3, .d (.cptr (some 3) (eA3 (eL (some 4) elaw05_Step) a0) 0)), (5, .d (.cptr (some 8) (eA8 (D.int .u16) a2) 0)), (7, .ptr 0 0 0), (8, vi 2), (21, vi 2)], ac [(0, .var [vi r4.1.Op, vi r4.1.F, vh r4.1.N, aq r4.1.Kids, vi r10.1.Op, vi r10.1.F, vh r10.1.N, aq r10.1.Kids, vi 0, vi 0, vh 0, aq []])], 1⟩ ?_ ?_
     ·
      iterate 2 refine q1 _ ?_
      exact nR [0]
     obtain ⟨r16, hr16, h⟩ := aw h
     refine al ⟨tab [(1, aU a1), (3, .d (.cptr (some 3) (eA3 (eL (some 4) elaw05_Step) a0) 0)), (5, .d (.cptr (some 8) (eA8 (D.int .u16) a2) 0)), (7, .ptr 0 0 0), (8, vi 2), (9, .ptr 1 0 0), (10, vb r16.2), (21, vi 2)], ac [(0, .var [vi r4.1.Op, vi r4.1.F, vh r4.1.N, aq r4.1.Kids, vi r10.1.Op, vi r10.1.F, vh r10.1.N, aq r10.1.Kids, vi 0, vi 0, vh 0, aq []]), (1, .var [vi r16.1.Op, vi r16.1.F, vh r16.1.N, aq r16.1.Kids])], 2⟩ ?_ ?_
     ·
      iterate 3 refine q1 _ ?_
      refine aX (r := .tup [a8 r16.1, .bool r16.2]) (aE aG.nil') (ot hr16) ?_
      iterate 3 refine q1 _ ?_
      refine step (v := .ptr 1 0 0) (σ' := (ak (ac [(0, .var [vi r4.1.Op, vi r4.1.F, vh r4.1.N, aq r4.1.Kids, vi r10.1.Op, vi r10.1.F, vh r10.1.N, aq r10.1.Kids, vi 0, vi 0, vh 0, aq []])]) 1 (some (aY)))) (n' := 2) rfl ?_
      refine step (v := V.undef) (σ' := (ak (ak (ac [(0, .var [vi r4.1.Op, vi r4.1.F, vh r4.1.N, aq r4.1.Kids, vi r10.1.Op, vi r10.1.F, vh r10.1.N, aq r10.1.Kids, vi 0, vi 0, vh 0, aq []])]) 1 (some (aY))) 1 (some (.var [vi r16.1.Op, vi r16.1.F, vh r16.1.N, aq r16.1.Kids])))) (n' := 2) rfl ?_
      refine q1 _ ?_
      exact nR [0, 1]
     refine aL ?_
     obtain ⟨y19, hv, h⟩ := aw h
     refine al ⟨tab [(1, aU a1), (3, .d (.cptr (some 3) (eA3 (eL (some 4) elaw05_Step) a0) 0)), (5, .d (.cptr (some 8) (eA8 (D.int .u16) a2) 0)), (7, .ptr 0 0 0), (8, vi 2), (9, .ptr 1 0 0), (21, vi 2), (38, vb y19)], ac [(0, .var [vi r4.1.Op, vi r4.1.F, vh r4.1.N, aq r4.1.Kids, vi r10.1.Op, vi r10.1.F, vh r10.1.N, aq r10.1.Kids, vi 0, vi 0, vh 0, aq []]), (1, .var [vi r16.1.Op, vi r16.1.F, vh r16.1.N, aq r16.1.Kids])], 2⟩ ?_ ?_
     ·
      iterate 3 refine q1 _ ?_
      by_cases hg17 : (!r16.2) = true
      ·
       replace hv := aJ hg17 hv
       iterate 4 refine qX (!r16.2) (by rw [hg17]; decide) ?_
       refine step (v := vb true) (aP (b := (!r16.2)) rfl hg17 rfl) ?_
       have hh := ar hv
       subst hh
       exact nR [0, 1]
      ·
       replace hv := aK hg17 hv
       obtain ⟨r18, hr18, hv⟩ := aw hv
       refine qG (!r16.2) (Bool.eq_false_iff.2 hg17) ?_
       refine step (v := vs1 r16.1) (bt (ds := [.int .i64 r16.1.Op, .int .i64 r16.1.F, .int .u16 r16.1.N, eL (some 4) ax r16.1.Kids]) rfl rfl (show 4 ≤ 4 by decide) rfl) ?_
       refine qG (!r16.2) (Bool.eq_false_iff.2 hg17) ?_
       refine step (v := aq ([r16.1] : List ah)) (bT rfl (by simp [eL, bD])) ?_
       refine qG (!r16.2) (Bool.eq_false_iff.2 hg17) ?_
       refine aX (r := .bool r18) (aE aG.nil') (ov hr18) ?_
       refine qG (!r16.2) (Bool.eq_false_iff.2 hg17) ?_
       refine q1 _ ?_
       refine step (v := vb (!r18)) (aO (b := (!r16.2)) rfl hg17 rfl) ?_
       have hh := ar hv
       subst hh
       exact nR [0, 1]
     by_cases hc21 : y19 = true
     ·
      replace h := aJ hc21 h
      refine aV (t := y19) rfl hc21 ?_
      refine al ⟨tab [(6, vb true)], ac [], 0⟩ ?_ ?_
      ·
       refine q1 _ ?_
       exact nR []
      have hh := ar h
      subst hh
      refine aZ ?_
      show FQ _ _ _ _
      exact bp (.inr rfl) (bo (v := vb true) rfl rfl) (RV.d trivial)
     ·
      replace h := aK hc21 h
      refine aW (t := y19) rfl hc21 ?_
      refine bq ?_
      refine bM ⟨tab [(1, aU a1), (3, .d (.cptr (some 3) (eA3 (eL (some 4) elaw05_Step) a0) 0)), (5, .d (.cptr (some 8) (eA8 (D.int .u16) a2) 0)), (7, .ptr 0 0 0), (21, vi 2)], ac [(0, .var [vi r4.1.Op, vi r4.1.F, vh r4.1.N, aq r4.1.Kids, vi r10.1.Op, vi r10.1.F, vh r10.1.N, aq r10.1.Kids, vi r16.1.Op, vi r16.1.F, vh r16.1.N, aq r16.1.Kids])], 1⟩ ?_ ?_
      ·
       refine q1 _ ?_
       refine step (v := vs1 r16.1) (bt (ds := [.int .i64 r16.1.Op, .int .i64 r16.1.F, .int .u16 r16.1.N, eL (some 4) ax r16.1.Kids]) rfl rfl (show 4 ≤ 4 by decide) rfl) ?_
       refine q1 _ ?_
       refine step (v := V.undef) (σ' := (ak (ac [(0, .var [vi r4.1.Op, vi r4.1.F, vh r4.1.N, aq r4.1.Kids, vi r10.1.Op, vi r10.1.F, vh r10.1.N, aq r10.1.Kids, vi 0, vi 0, vh 0, aq []]), (1, .var [vi r16.1.Op, vi r16.1.F, vh r16.1.N, aq r16.1.Kids])]) 0 (some (.var [vi r4.1.Op, vi r4.1.F, vh r4.1.N, aq r4.1.Kids, vi r10.1.Op, vi r10.1.F, vh r10.1.N, aq r10.1.Kids, vi r16.1.Op, vi r16.1.F, vh r16.1.N, aq r16.1.Kids])))) (n' := 2) rfl ?_
       exact nR [0]
      refine bM ⟨tab [(1, aU a1), (3, .d (.cptr (some 3) (eA3 (eL (some 4) elaw05_Step) a0) 0)), (5, .d (.cptr (some 8) (eA8 (D.int .u16) a2) 0)), (7, .ptr 0 0 0), (21, vi 3)], ac [(0, .var [vi r4.1.Op, vi r4.1.F, vh r4.1.N, aq r4.1.Kids, vi r10.1.Op, vi r10.1.F, vh r10.1.N, aq r10.1.Kids, vi r16.1.Op, vi r16.1.F, vh r16.1.N, aq r16.1.Kids])], 1⟩ ?_ ?_
      ·
       iterate 2 refine q1 _ ?_
       exact nR [0]
      refine gN ?_
      refine al ⟨tab [(1, aU a1), (3, .d (.cptr (some 3) (eA3 (eL (some 4) elaw05_Step) a0) 0)), (5, .d (.cptr (some 8) (eA8 (D.int .u16) a2) 0)), (7, .ptr 0 0 0), (21, vi 3), (22, vb false)], ac [(0, .var [vi r4.1.Op, vi r4.1.F, vh r4.1.N, aq r4.1.Kids, vi r10.1.Op, vi r10.1.F, vh r10.1.N, aq r10.1.Kids, vi r16.1.Op, vi r16.1.F, vh r16.1.N, aq r16.1.Kids])], 1⟩ ?_ ?_
      ·
       refine q1 _ ?_
       exact nR [0]
      refine aL ?_
      refine aW (t := false) rfl (by decide) ?_
      refine cT ?_
      refine vM ⟨tab [(1, aU a1), (5, .d (.cptr (some 8) (eA8 (D.int .u16) a2) 0)), (11, .ptr 0 0 0), (12, .ptr 1 0 0), (13, .ptr 2 0 0)], ac [(0, .var [vi r4.1.Op, vi r4.1.F, vh r4.1.N, aq r4.1.Kids]), (1, .var [vi r10.1.Op, vi r10.1.F, vh r10.1.N, aq r10.1.Kids]), (2, .var [vi r16.1.Op, vi r16.1.F, vh r16.1.N, aq r16.1.Kids])], 3⟩ ?_ ?_
      ·
       refine cH [] [] (v := .ptr 0 0 0) rfl rfl rfl ?_
       refine cH [0] [] (v := vs1 r4.1) (bt (ds := [.int .i64 r4.1.Op, .int .i64 r4.1.F, .int .u16 r4.1.N, eL (some 4) ax r4.1.Kids]) rfl rfl (show 4 ≤ 12 by decide) rfl) rfl rfl ?_
       refine cH [] [] (v := .ptr 0 0 4) rfl rfl rfl ?_
       refine cH [0] [] (v := vs1 r10.1) (bt (ds := [.int .i64 r10.1.Op, .int .i64 r10.1.F, .int .u16 r10.1.N, eL (some 4) ax r10.1.Kids]) rfl rfl (show 8 ≤ 12 by decide) rfl) rfl rfl ?_
       refine cH [] [] (v := .ptr 0 0 8) rfl rfl rfl ?_
       refine cH [0] [] (v := vs1 r16.1) (bt (ds := [.int .i64 r16.1.Op, .int .i64 r16.1.F, .int .u16 r16.1.N, eL (some 4) ax r16.1.Kids]) rfl rfl (show 12 ≤ 12 by decide) rfl) rfl rfl ?_
       refine cH [] [] (v := .ptr 1 0 0) (σ' := (ak (ac [(0, .var [vi r4.1.Op, vi r4.1.F, vh r4.1.N, aq r4.1.Kids, vi r10.1.Op, vi r10.1.F, vh r10.1.N, aq r10.1.Kids, vi r16.1.Op, vi r16.1.F, vh r16.1.N, aq r16.1.Kids])]) 1 (some (aY)))) (n' := 2) rfl rfl rfl ?_
       refine cH [] [] (v := .ptr 2 0 0) (σ' := (ak (ak (ac [(0, .var [vi r4.1.Op, vi r4.1.F, vh r4.1.N, aq r4.1.Kids, vi r10.1.Op, vi r10.1.F, vh r10.1.N, aq r10.1.Kids, vi r16.1.Op, vi r16.1.F, vh r16.1.N, aq r16.1.Kids])]) 1 (some (aY))) 2 (some (aY)))) (n' := 3) rfl rfl rfl ?_
       refine cH [] [] (v := .ptr 3 0 0) (σ' := (ak (ak (ak (ac [(0, .var [vi r4.1.Op, vi r4.1.F, vh r4.1.N, aq r4.1.Kids, vi r10.1.Op, vi r10.1.F, vh r10.1.N, aq r10.1.Kids, vi r16.1.Op, vi r16.1.F, vh r16.1.N, aq r16.1.Kids])]) 1 (some (aY))) 2 (some (aY))) 3 (some (aY)))) (n' := 4) rfl rfl rfl ?_
       refine cH [1] [1] (v := V.undef) (σ' := (ak (ak (ak (ak (ac [(0, .var [vi r4.1.Op, vi r4.1.F, vh r4.1.N, aq r4.1.Kids, vi r10.1.Op, vi r10.1.F, vh r10.1.N, aq r10.1.Kids, vi r16.1.Op, vi r16.1.F, vh r16.1.N, aq r16.1.Kids])]) 1 (some (aY))) 2 (some (aY))) 3 (some (aY))) 1 (some (.var [vi r4.1.Op, vi r4.1.F, vh r4.1.N, aq r4.1.Kids])))) (n' := 4) rfl rfl rfl ?_
       refine cH [2] [2] (v := V.undef) (σ' := (ak (ak (ak (ak (ak (ac [(0, .var [vi r4.1.Op, vi r4.1.F, vh r4.1.N, aq r4.1.Kids, vi r10.1.Op, vi r10.1.F, vh r10.1.N, aq r10.1.Kids, vi r16.1.Op, vi r16.1.F, vh r16.1.N, aq r16.1.Kids])]) 1 (some (aY))) 2 (some (aY))) 3 (some (aY))) 1 (some (.var [vi r4.1.Op, vi r4.1.F, vh r4.1.N, aq r4.1.Kids]))) 2 (some (.var [vi r10.1.Op, vi r10.1.F, vh r10.1.N, aq r10.1.Kids])))) (n' := 4) rfl rfl rfl ?_
       refine cH [3] [3] (v := V.undef) (σ' := (ak (ak (ak (ak (ak (ak (ac [(0, .var [vi r4.1.Op, vi r4.1.F, vh r4.1.N, aq r4.1.Kids, vi r10.1.Op, vi r10.1.F, vh r10.1.N, aq r10.1.Kids, vi r16.1.Op, vi r16.1.F, vh r16.1.N, aq r16.1.Kids])]) 1 (some (aY))) 2 (some (aY))) 3 (some (aY))) 1 (some (.var [vi r4.1.Op, vi r4.1.F, vh r4.1.N, aq r4.1.Kids]))) 2 (some (.var [vi r10.1.Op, vi r10.1.F, vh r10.1.N, aq r10.1.Kids]))) 3 (some (.var [vi r16.1.Op, vi r16.1.F, vh r16.1.N, aq r16.1.Kids])))) (n' := 4) rfl rfl rfl ?_
       exact cm.nil' ⟨by decide, nr [1, 2, 3]⟩
      refine al ⟨tab [(1, aU a1), (5, .d (.cptr (some 8) (eA8 (D.int .u16) a2) 0)), (11, .ptr 0 0 0), (12, .ptr 1 0 0), (13, .ptr 2 0 0), (14, .ptr 3 0 0), (15, .ptr 4 0 0)], ac [(0, .var [vi r4.1.Op, vi r4.1.F, vh r4.1.N, aq r4.1.Kids]), (1, .var [vi r10.1.Op, vi r10.1.F, vh r10.1.N, aq r10.1.Kids]), (2, .var [vi r16.1.Op, vi r16.1.F, vh r16.1.N, aq r16.1.Kids]), (3, .var [vi 1, vi 0, vh 0, aq []]), (4, aY)], 5⟩ ?_ ?_
      ·
       refine step (v := vs1 (ah.mk 1 0 0 [])) (dT (ds := [.int .i64 1, .int .i64 0, .int .u16 0, eL (some 4) ax []]) rfl) ?_
       refine step (v := vs1 (ah.mk 0 0 0 [])) (dT (ds := [.int .i64 0, .int .i64 0, .int .u16 0, eL (some 4) ax []]) rfl) ?_
       refine step (v := .ptr 3 0 0) (σ' := (ak (ac [(0, .var [vi r4.1.Op, vi r4.1.F, vh r4.1.N, aq r4.1.Kids]), (1, .var [vi r10.1.Op, vi r10.1.F, vh r10.1.N, aq r10.1.Kids]), (2, .var [vi r16.1.Op, vi r16.1.F, vh r16.1.N, aq r16.1.Kids])]) 3 (some (aY)))) (n' := 4) rfl ?_
       refine step (v := .ptr 4 0 0) (σ' := (ak (ak (ac [(0, .var [vi r4.1.Op, vi r4.1.F, vh r4.1.N, aq r4.1.Kids]), (1, .var [vi r10.1.Op, vi r10.1.F, vh r10.1.N, aq r10.1.Kids]), (2, .var [vi r16.1.Op, vi r16.1.F, vh r16.1.N, aq r16.1.Kids])]) 3 (some (aY))) 4 (some (aY)))) (n' := 5) rfl ?_
       refine step (v := V.undef) (σ' := (ak (ak (ak (ac [(0, .var [vi r4.1.Op, vi r4.1.F, vh r4.1.N, aq r4.1.Kids]), (1, .var [vi r10.1.Op, vi r10.1.F, vh r10.1.N, aq r10.1.Kids]), (2, .var [vi r16.1.Op, vi r16.1.F, vh r16.1.N, aq r16.1.Kids])]) 3 (some (aY))) 4 (some (aY))) 3 (some (.var [vi 1, vi 0, vh 0, aq []])))) (n' := 5) rfl ?_
       refine step (v := V.undef) (σ' := (ak (ak (ak (ak (ac [(0, .var [vi r4.1.Op, vi r4.1.F, vh r4.1.N, aq r4.1.Kids]), (1, .var [vi r10.1.Op, vi r10.1.F, vh r10.1.N, aq r10.1.Kids]), (2, .var [vi r16.1.Op, vi r16.1.F, vh r16.1.N, aq r16.1.Kids])]) 3 (some (aY))) 4 (some (aY))) 3 (some (.var [vi 1, vi 0, vh 0, aq []]))) 4 (some (aY)))) (n' := 5) rfl ?_
       exact nR [0, 1, 2, 3, 4]
      obtain ⟨r22, hr22, h⟩ := aw h
      obtain ⟨r23, hr23, h⟩ := aw h
      obtain ⟨r24, hr24, h⟩ := aw h
      obtain ⟨r25, hr25, h⟩ := aw h
      obtain ⟨r26, hr26, h⟩ := aw h
      obtain ⟨r27, hr27, h⟩ := aw h
      obtain ⟨r28, hr28, h⟩ := aw h
      obtain ⟨y55, hv, h⟩ := aw h
      refine al ⟨tab [(6, vb y55)], ac [], 0⟩ ?_ ?_
      ·
       iterate 2 refine q1 _ ?_
       refine step (v := vs1 r4.1) (bt (ds := [.int .i64 r4.1.Op, .int .i64 r4.1.F, .int .u16 r4.1.N, eL (some 4) ax r4.1.Kids]) rfl rfl (show 4 ≤ 4 by decide) rfl) ?_
       refine step (v := vs1 r10.1) (bt (ds := [.int .i64 r10.1.Op, .int .i64 r10.1.F, .int .u16 r10.1.N, eL (some 4) ax r10.1.Kids]) rfl rfl (show 4 ≤ 4 by decide) rfl) ?_
       refine step (v := vs1 r16.1) (bt (ds := [.int .i64 r16.1.Op, .int .i64 r16.1.F, .int .u16 r16.1.N, eL (some 4) ax r16.1.Kids]) rfl rfl (show 4 ≤ 4 by decide) rfl) ?_
       refine step (v := aq ([r10.1, r16.1] : List ah)) (bT rfl (by simp [eL, bD])) ?_
       refine aX (r := a8 r22) (aE aG.nil') (e8 hr22) ?_
       refine step (v := aq ([r4.1, r22] : List ah)) (bT rfl (by simp [eL, bD])) ?_
       refine aX (r := a8 r23) (aE aG.nil') (e8 hr23) ?_
       refine step (v := vs1 r4.1) (bt (ds := [.int .i64 r4.1.Op, .int .i64 r4.1.F, .int .u16 r4.1.N, eL (some 4) ax r4.1.Kids]) rfl rfl (show 4 ≤ 4 by decide) rfl) ?_
       refine step (v := vs1 r10.1) (bt (ds := [.int .i64 r10.1.Op, .int .i64 r10.1.F, .int .u16 r10.1.N, eL (some 4) ax r10.1.Kids]) rfl rfl (show 4 ≤ 4 by decide) rfl) ?_
       refine step (v := aq ([r4.1, r10.1] : List ah)) (bT rfl (by simp [eL, bD])) ?_
       refine aX (r := a8 r24) (aE aG.nil') (e8 hr24) ?_
       refine step (v := vs1 r16.1) (bt (ds := [.int .i64 r16.1.Op, .int .i64 r16.1.F, .int .u16 r16.1.N, eL (some 4) ax r16.1.Kids]) rfl rfl (show 4 ≤ 4 by decide) rfl) ?_
       refine step (v := aq ([r24, r16.1] : List ah)) (bT rfl (by simp [eL, bD])) ?_
       refine aX (r := a8 r25) (aE aG.nil') (e8 hr25) ?_
       refine step (v := vs1 r4.1) (bt (ds := [.int .i64 r4.1.Op, .int .i64 r4.1.F, .int .u16 r4.1.N, eL (some 4) ax r4.1.Kids]) rfl rfl (show 4 ≤ 4 by decide) rfl) ?_
       refine step (v := vs1 r10.1) (bt (ds := [.int .i64 r10.1.Op, .int .i64 r10.1.F, .int .u16 r10.1.N, eL (some 4) ax r10.1.Kids]) rfl rfl (show 4 ≤ 4 by decide) rfl) ?_
       refine step (v := vs1 r16.1) (bt (ds := [.int .i64 r16.1.Op, .int .i64 r16.1.F, .int .u16 r16.1.N, eL (some 4) ax r16.1.Kids]) rfl rfl (show 4 ≤ 4 by decide) rfl) ?_
       refine step (v := aq ([r4.1, r10.1, r16.1] : List ah)) (bT rfl (by simp [eL, bD])) ?_
       refine aX (r := a8 r26) (aE aG.nil') (e8 hr26) ?_
       refine step (v := vs1 r16.1) (bt (ds := [.int .i64 r16.1.Op, .int .i64 r16.1.F, .int .u16 r16.1.N, eL (some 4) ax r16.1.Kids]) rfl rfl (show 4 ≤ 4 by decide) rfl) ?_
       refine step (v := vs1 r10.1) (bt (ds := [.int .i64 r10.1.Op, .int .i64 r10.1.F, .int .u16 r10.1.N, eL (some 4) ax r10.1.Kids]) rfl rfl (show 4 ≤ 4 by decide) rfl) ?_
       refine step (v := vs1 r4.1) (bt (ds := [.int .i64 r4.1.Op, .int .i64 r4.1.F, .int .u16 r4.1.N, eL (some 4) ax r4.1.Kids]) rfl rfl (show 4 ≤ 4 by decide) rfl) ?_
       refine step (v := aq ([r16.1, r10.1, r4.1] : List ah)) (bT rfl (by simp [eL, bD])) ?_
       refine aX (r := a8 r27) (aE aG.nil') (e8 hr27) ?_
       refine step (v := aq ([r23, r25, r26, r27] : List ah)) (bT rfl (by simp [eL, bD])) ?_
       refine aX (r := .bool r28) (aE (aE (aE aG.nil'))) (jl hr28) ?_
       refine q1 _ ?_
       by_cases hg29 : r28 = true
       ·
        replace hv := aJ hg29 hv
        obtain ⟨r30, hr30, hv⟩ := aw hv
        obtain ⟨r31, hr31, hv⟩ := aw hv
        obtain ⟨r32, hr32, hv⟩ := aw hv
        obtain ⟨r33, hr33, hv⟩ := aw hv
        obtain ⟨r34, hr34, hv⟩ := aw hv
        obtain ⟨r35, hr35, hv⟩ := aw hv
        refine qG _ hg29 ?_
        refine q1 _ ?_
        refine qG _ hg29 ?_
        refine q1 _ ?_
        refine qG _ hg29 ?_
        refine step (v := vs1 r4.1) (bt (ds := [.int .i64 r4.1.Op, .int .i64 r4.1.F, .int .u16 r4.1.N, eL (some 4) ax r4.1.Kids]) rfl rfl (show 4 ≤ 4 by decide) rfl) ?_
        refine qG _ hg29 ?_
        refine step (v := vs1 r10.1) (bt (ds := [.int .i64 r10.1.Op, .int .i64 r10.1.F, .int .u16 r10.1.N, eL (some 4) ax r10.1.Kids]) rfl rfl (show 4 ≤ 4 by decide) rfl) ?_
        refine qG _ hg29 ?_
        refine step (v := vs1 r16.1) (bt (ds := [.int .i64 r16.1.Op, .int .i64 r16.1.F, .int .u16 r16.1.N, eL (some 4) ax r16.1.Kids]) rfl rfl (show 4 ≤ 4 by decide) rfl) ?_
        refine qG _ hg29 ?_
        refine step (v := aq ([r10.1, r16.1] : List ah)) (bT rfl (by simp [eL, bD])) ?_
        refine qG _ hg29 ?_
        refine aX (r := a8 r30) (aE aG.nil') (dX hr30) ?_
        refine qG _ hg29 ?_
        refine step (v := aq ([r4.1, r30] : List ah)) (bT rfl (by simp [eL, bD])) ?_
        refine qG _ hg29 ?_
        refine aX (r := a8 r31) (aE aG.nil') (dX hr31) ?_
        refine qG _ hg29 ?_
        refine step (v := vs1 r4.1) (bt (ds := [.int .i64 r4.1.Op, .int .i64 r4.1.F, .int .u16 r4.1.N, eL (some 4) ax r4.1.Kids]) rfl rfl (show 4 ≤ 4 by decide) rfl) ?_
        refine qG _ hg29 ?_
        refine step (v := vs1 r10.1) (bt (ds := [.int .i64 r10.1.Op, .int .i64 r10.1.F, .int .u16 r10.1.N, eL (some 4) ax r10.1.Kids]) rfl rfl (show 4 ≤ 4 by decide) rfl) ?_
        refine qG _ hg29 ?_
        refine step (v := aq ([r4.1, r10.1] : List ah)) (bT rfl (by simp [eL, bD])) ?_
        refine qG _ hg29 ?_
        refine aX (r := a8 r32) (aE aG.nil') (dX hr32) ?_
        refine qG _ hg29 ?_
        refine step (v := vs1 r16.1) (bt (ds := [.int .i64 r16.1.Op, .int .i64 r16.1.F, .int .u16 r16.1.N, eL (some 4) ax r16.1.Kids]) rfl rfl (show 4 ≤ 4 by decide) rfl) ?_
        refine qG _ hg29 ?_
        refine step (v := aq ([r32, r16.1] : List ah)) (bT rfl (by simp [eL, bD])) ?_
        refine qG _ hg29 ?_
        refine aX (r := a8 r33) (aE aG.nil') (dX hr33) ?_
        refine qG _ hg29 ?_
        refine step (v := vs1 r4.1) (bt (ds := [.int .i64 r4.1.Op, .int .i64 r4.1.F, .int .u16 r4.1.N, eL (some 4) ax r4.1.Kids]) rfl rfl (show 4 ≤ 4 by decide) rfl) ?_
        refine qG _ hg29 ?_
        refine step (v := vs1 r10.1) (bt (ds := [.int .i64 r10.1.Op, .int .i64 r10.1.F, .int .u16 r10.1.N, eL (some 4) ax r10.1.Kids]) rfl rfl (show 4 ≤ 4 by decide) rfl) ?_
        refine qG _ hg29 ?_
        refine step (v := vs1 r16.1) (bt (ds := [.int .i64 r16.1.Op, .int .i64 r16.1.F, .int .u16 r16.1.N, eL (some 4) ax r16.1.Kids]) rfl rfl (show 4 ≤ 4 by decide) rfl) ?_
        refine qG _ hg29 ?_
        refine step (v := aq ([r4.1, r10.1, r16.1] : List ah)) (bT rfl (by simp [eL, bD])) ?_
        refine qG _ hg29 ?_
        refine aX (r := a8 r34) (aE aG.nil') (dX hr34) ?_
        refine qG _ hg29 ?_
        refine step (v := aq ([r31, r33, r34] : List ah)) (bT rfl (by simp [eL, bD])) ?_
        refine qG _ hg29 ?_
        refine aX (r := .bool r35) (aE (aE (aE aG.nil'))) (jl hr35) ?_
        refine step (v := vb r35) (aP (b := r28) rfl hg29 rfl) ?_
        refine q1 _ ?_
        by_cases hg36 : r35 = true
        ·
         replace hv := aJ hg36 hv
         obtain ⟨r37, hr37, hv⟩ := aw hv
         obtain ⟨r38, hr38, hv⟩ := aw hv
         obtain ⟨r39, hr39, hv⟩ := aw hv
         obtain ⟨r40, hr40, hv⟩ := aw hv
         obtain ⟨r41, hr41, hv⟩ := aw hv
         refine qG _ hg36 ?_
         refine q1 _ ?_
         refine qG _ hg36 ?_
         refine q1 _ ?_
         refine qG _ hg36 ?_
         refine step (v := vs1 r4.1) (bt (ds := [.int .i64 r4.1.Op, .int .i64 r4.1.F, .int .u16 r4.1.N, eL (some 4) ax r4.1.Kids]) rfl rfl (show 4 ≤ 4 by decide) rfl) ?_
         refine qG _ hg36 ?_
         refine step (v := vs1 r4.1) (bt (ds := [.int .i64 r4.1.Op, .int .i64 r4.1.F, .int .u16 r4.1.N, eL (some 4) ax r4.1.Kids]) rfl rfl (show 4 ≤ 4 by decide) rfl) ?_
         refine qG _ hg36 ?_
         refine step (v := aq ([r4.1, r4.1] : List ah)) (bT rfl (by simp [eL, bD])) ?_
         refine qG _ hg36 ?_
         refine aX (r := a8 r37) (aE aG.nil') (e8 hr37) ?_
         refine qG _ hg36 ?_
         refine step (v := vs1 r4.1) (bt (ds := [.int .i64 r4.1.Op, .int .i64 r4.1.F, .int .u16 r4.1.N, eL (some 4) ax r4.1.Kids]) rfl rfl (show 4 ≤ 4 by decide) rfl) ?_
         refine qG _ hg36 ?_
         refine step (v := vs1 r4.1) (bt (ds := [.int .i64 r4.1.Op, .int .i64 r4.1.F, .int .u16 r4.1.N, eL (some 4) ax r4.1.Kids]) rfl rfl (show 4 ≤ 4 by decide) rfl) ?_
         refine qG _ hg36 ?_
         refine step (v := vs1 (ah.mk 0 0 0 [])) (bt (ds := [.int .i64 0, .int .i64 0, .int .u16 0, eL (some 4) ax []]) rfl rfl (show 4 ≤ 4 by decide) rfl) ?_
         refine qG _ hg36 ?_
         refine step (v := aq ([r4.1, (ah.mk 0 0 0 [])] : List ah)) (bT rfl (by simp [eL, bD])) ?_
         refine qG _ hg36 ?_
         refine aX (r := a8 r38) (aE aG.nil') (e8 hr38) ?_
         refine qG _ hg36 ?_
         refine step (v := vs1 r4.1) (bt (ds := [.int .i64 r4.1.Op, .int .i64 r4.1.F, .int .u16 r4.1.N, eL (some 4) ax r4.1.Kids]) rfl rfl (show 4 ≤ 4 by decide) rfl) ?_
         refine qG _ hg36 ?_
         refine step (v := vs1 (ah.mk 1 0 0 [])) (bt (ds := [.int .i64 1, .int .i64 0, .int .u16 0, eL (some 4) ax []]) rfl rfl (show 4 ≤ 4 by decide) rfl) ?_
         refine qG _ hg36 ?_
         refine step (v := aq ([r4.1, (ah.mk 1 0 0 [])] : List ah)) (bT rfl (by simp [eL, bD])) ?_
         refine qG _ hg36 ?_
         refine aX (r := a8 r39) (aE aG.nil') (dX hr39) ?_
         refine qG _ hg36 ?_
         refine step (v := vs1 (ah.mk 1 0 0 [])) (bt (ds := [.int .i64 1, .int .i64 0, .int .u16 0, eL (some 4) ax []]) rfl rfl (show 4 ≤ 4 by decide) rfl) ?_
         refine qG _ hg36 ?_
         refine step (v := vs1 r4.1) (bt (ds := [.int .i64 r4.1.Op, .int .i64 r4.1.F, .int .u16 r4.1.N, eL (some 4) ax r4.1.Kids]) rfl rfl (show 4 ≤ 4 by decide) rfl) ?_
         refine qG _ hg36 ?_
         refine step (v := aq ([(ah.mk 1 0 0 []), r4.1] : List ah)) (bT rfl (by simp [eL, bD])) ?_
         refine qG _ hg36 ?_
         refine aX (r := a8 r40) (aE aG.nil') (dX hr40) ?_
         refine qG _ hg36 ?_
         refine step (v := aq ([r37, r4.1, r38, r39, r40] : List ah)) (bT rfl (by simp [eL, bD])) ?_
         refine qG _ hg36 ?_
         refine aX (r := .bool r41) (aE (aE (aE aG.nil'))) (jl hr41) ?_
         refine step (v := vb r41) (aP (b := r35) rfl hg36 rfl) ?_
         refine q1 _ ?_
         by_cases hg42 : r41 = true
         ·
          replace hv := aJ hg42 hv
          obtain ⟨r43, hr43, hv⟩ := aw hv
          obtain ⟨r44, hr44, hv⟩ := aw hv
          obtain ⟨r45, hr45, hv⟩ := aw hv
          refine qG _ hg42 ?_
          refine q1 _ ?_
          refine qG _ hg42 ?_
          refine q1 _ ?_
          refine qG _ hg42 ?_
          refine step (v := vs1 r4.1) (bt (ds := [.int .i64 r4.1.Op, .int .i64 r4.1.F, .int .u16 r4.1.N, eL (some 4) ax r4.1.Kids]) rfl rfl (show 4 ≤ 4 by decide) rfl) ?_
          refine qG _ hg42 ?_
          refine step (v := vs1 (ah.mk 0 0 0 [])) (bt (ds := [.int .i64 0, .int .i64 0, .int .u16 0, eL (some 4) ax []]) rfl rfl (show 4 ≤ 4 by decide) rfl) ?_
          refine qG _ hg42 ?_
          refine step (v := aq ([r4.1, (ah.mk 0 0 0 [])] : List ah)) (bT rfl (by simp [eL, bD])) ?_
          refine qG _ hg42 ?_
          refine aX (r := a8 r43) (aE aG.nil') (dX hr43) ?_
          refine qG _ hg42 ?_
          refine step (v := vs1 (ah.mk 0 0 0 [])) (bt (ds := [.int .i64 0, .int .i64 0, .int .u16 0, eL (some 4) ax []]) rfl rfl (show 4 ≤ 4 by decide) rfl) ?_
          refine qG _ hg42 ?_
          refine step (v := vs1 r4.1) (bt (ds := [.int .i64 r4.1.Op, .int .i64 r4.1.F, .int .u16 r4.1.N, eL (some 4) ax r4.1.Kids]) rfl rfl (show 4 ≤ 4 by decide) rfl) ?_
          refine qG _ hg42 ?_
          refine step (v := aq ([(ah.mk 0 0 0 []), r4.1] : List ah)) (bT rfl (by simp [eL, bD])) ?_
          refine qG _ hg42 ?_
          refine aX (r := a8 r44) (aE aG.nil') (dX hr44) ?_
          refine qG _ hg42 ?_
          refine step (v := vs1 (ah.mk 0 0 0 [])) (bt (ds := [.int .i64 0, .int .i64 0, .int .u16 0, eL (some 4) ax []]) rfl rfl (show 4 ≤ 4 by decide) rfl) ?_
          refine qG _ hg42 ?_
          refine step (v := aq ([r43, r44, (ah.mk 0 0 0 [])] : List ah)) (bT rfl (by simp [eL, bD])) ?_
          refine qG _ hg42 ?_
          refine aX (r := .bool r45) (aE (aE (aE aG.nil'))) (jl hr45) ?_
          refine step (v := vb r45) (aP (b := r41) rfl hg42 rfl) ?_
          refine q1 _ ?_
          by_cases hg46 : r45 = true
          ·
           replace hv := aJ hg46 hv
           obtain ⟨r47, hr47, hv⟩ := aw hv
           obtain ⟨r48, hr48, hv⟩ := aw hv
           obtain ⟨r49, hr49, hv⟩ := aw hv
           obtain ⟨r50, hr50, hv⟩ := aw hv
           refine qG _ hg46 ?_
           refine q1 _ ?_
           refine qG _ hg46 ?_
           refine q1 _ ?_
           refine qG _ hg46 ?_
           refine step (v := vs1 r4.1) (bt (ds := [.int .i64 r4.1.Op, .int .i64 r4.1.F, .int .u16 r4.1.N, eL (some 4) ax r4.1.Kids]) rfl rfl (show 4 ≤ 4 by decide) rfl) ?_
           refine qG _ hg46 ?_
           refine step (v := vs1 r10.1) (bt (ds := [.int .i64 r10.1.Op, .int .i64 r10.1.F, .int .u16 r10.1.N, eL (some 4) ax r10.1.Kids]) rfl rfl (show 4 ≤ 4 by decide) rfl) ?_
           refine qG _ hg46 ?_
           refine step (v := vs1 r16.1) (bt (ds := [.int .i64 r16.1.Op, .int .i64 r16.1.F, .int .u16 r16.1.N, eL (some 4) ax r16.1.Kids]) rfl rfl (show 4 ≤ 4 by decide) rfl) ?_
           refine qG _ hg46 ?_
           refine step (v := aq ([r10.1, r16.1] : List ah)) (bT rfl (by simp [eL, bD])) ?_
           refine qG _ hg46 ?_
           refine aX (r := a8 r22) (aE aG.nil') (e8 hr22) ?_
           refine qG _ hg46 ?_
           refine step (v := aq ([r4.1, r22] : List ah)) (bT rfl (by simp [eL, bD])) ?_
           refine qG _ hg46 ?_
           refine aX (r := a8 r47) (aE aG.nil') (dX hr47) ?_
           refine qG _ hg46 ?_
           refine step (v := vs1 r4.1) (bt (ds := [.int .i64 r4.1.Op, .int .i64 r4.1.F, .int .u16 r4.1.N, eL (some 4) ax r4.1.Kids]) rfl rfl (show 4 ≤ 4 by decide) rfl) ?_
           refine qG _ hg46 ?_
           refine step (v := vs1 r10.1) (bt (ds := [.int .i64 r10.1.Op, .int .i64 r10.1.F, .int .u16 r10.1.N, eL (some 4) ax r10.1.Kids]) rfl rfl (show 4 ≤ 4 by decide) rfl) ?_
           refine qG _ hg46 ?_
           refine step (v := aq ([r4.1, r10.1] : List ah)) (bT rfl (by simp [eL, bD])) ?_
           refine qG _ hg46 ?_
           refine aX (r := a8 r32) (aE aG.nil') (dX hr32) ?_
           refine qG _ hg46 ?_
           refine step (v := vs1 r4.1) (bt (ds := [.int .i64 r4.1.Op, .int .i64 r4.1.F, .int .u16 r4.1.N, eL (some 4) ax r4.1.Kids]) rfl rfl (show 4 ≤ 4 by decide) rfl) ?_
           refine qG _ hg46 ?_
           refine step (v := vs1 r16.1) (bt (ds := [.int .i64 r16.1.Op, .int .i64 r16.1.F, .int .u16 r16.1.N, eL (some 4) ax r16.1.Kids]) rfl rfl (show 4 ≤ 4 by decide) rfl) ?_
           refine qG _ hg46 ?_
           refine step (v := aq ([r4.1, r16.1] : List ah)) (bT rfl (by simp [eL, bD])) ?_
           refine qG _ hg46 ?_
           refine aX (r := a8 r48) (aE aG.nil') (dX hr48) ?_
           refine qG _ hg46 ?_
           refine step (v := aq ([r32, r48] : List ah)) (bT rfl (by simp [eL, bD])) ?_
           refine qG _ hg46 ?_
           refine aX (r := a8 r49) (aE aG.nil') (e8 hr49) ?_
           refine qG _ hg46 ?_
           refine step (v := aq ([r47, r49] : List ah)) (bT rfl (by simp [eL, bD])) ?_
           refine qG _ hg46 ?_
           refine aX (r := .bool r50) (aE (aE (aE aG.nil'))) (jl hr50) ?_
           refine step (v := vb r50) (aP (b := r45) rfl hg46 rfl) ?_
           refine q1 _ ?_
           by_cases hg51 : r50 = true
           ·
            replace hv := aJ hg51 hv
            obtain ⟨r52, hr52, hv⟩ := aw hv
            obtain ⟨r53, hr53, hv⟩ := aw hv
            obtain ⟨r54, hr54, hv⟩ := aw hv
            refine qG _ hg51 ?_
            refine q1 _ ?_
            refine qG _ hg51 ?_
            refine q1 _ ?_
            refine qG _ hg51 ?_
            refine step (v := vs1 r4.1) (bt (ds := [.int .i64 r4.1.Op, .int .i64 r4.1.F, .int .u16 r4.1.N, eL (some 4) ax r4.1.Kids]) rfl rfl (show 4 ≤ 4 by decide) rfl) ?_
            refine qG _ hg51 ?_
            refine step (v := vs1 r10.1) (bt (ds := [.int .i64 r10.1.Op, .int .i64 r10.1.F, .int .u16 r10.1.N, eL (some 4) ax r10.1.Kids]) rfl rfl (show 4 ≤ 4 by decide) rfl) ?_
            refine qG _ hg51 ?_
            refine step (v := aq ([r4.1, r10.1] : List ah)) (bT rfl (by simp [eL, bD])) ?_
            refine qG _ hg51 ?_
            refine aX (r := a8 r24) (aE aG.nil') (e8 hr24) ?_
            refine qG _ hg51 ?_
            refine step (v := vs1 r16.1) (bt (ds := [.int .i64 r16.1.Op, .int .i64 r16.1.F, .int .u16 r16.1.N, eL (some 4) ax r16.1.Kids]) rfl rfl (show 4 ≤ 4 by decide) rfl) ?_
            refine qG _ hg51 ?_
            refine step (v := aq ([r24, r16.1] : List ah)) (bT rfl (by simp [eL, bD])) ?_
            refine qG _ hg51 ?_
            refine aX (r := a8 r52) (aE aG.nil') (dX hr52) ?_
            refine qG _ hg51 ?_
            refine step (v := vs1 r4.1) (bt (ds := [.int .i64 r4.1.Op, .int .i64 r4.1.F, .int .u16 r4.1.N, eL (some 4) ax r4.1.Kids]) rfl rfl (show 4 ≤ 4 by decide) rfl) ?_
            refine qG _ hg51 ?_
            refine step (v := vs1 r16.1) (bt (ds := [.int .i64 r16.1.Op, .int .i64 r16.1.F, .int .u16 r16.1.N, eL (some 4) ax r16.1.Kids]) rfl rfl (show 4 ≤ 4 by decide) rfl) ?_
            refine qG _ hg51 ?_
            refine step (v := aq ([r4.1, r16.1] : List ah)) (bT rfl (by simp [eL, bD])) ?_
            refine qG _ hg51 ?_
            refine aX (r := a8 r48) (aE aG.nil') (dX hr48) ?_
            refine qG _ hg51 ?_
            refine step (v := vs1 r10.1) (bt (ds := [.int .i64 r10.1.Op, .int .i64 r10.1.F, .int .u16 r10.1.N, eL (some 4) ax r10.1.Kids]) rfl rfl (show 4 ≤ 4 by decide) rfl) ?_
            refine qG _ hg51 ?_
            refine step (v := vs1 r16.1) (bt (ds := [.int .i64 r16.1.Op, .int .i64 r16.1.F, .int .u16 r16.1.N, eL (some 4) ax r16.1.Kids]) rfl rfl (show 4 ≤ 4 by decide) rfl) ?_
            refine qG _ hg51 ?_
            refine step (v := aq ([r10.1, r16.1] : List ah)) (bT rfl (by simp [eL, bD])) ?_
            refine qG _ hg51 ?_
            refine aX (r := a8 r30) (aE aG.nil') (dX hr30) ?_
            refine qG _ hg51 ?_
            refine step (v := aq ([r48, r30] : List ah)) (bT rfl (by simp [eL, bD])) ?_
            refine qG _ hg51 ?_
            refine aX (r := a8 r53) (aE aG.nil') (e8 hr53) ?_
            refine qG _ hg51 ?_
            refine step (v := aq ([r52, r53] : List ah)) (bT rfl (by simp [eL, bD])) ?_
            refine qG _ hg51 ?_
            refine aX (r := .bool r54) (aE (aE (aE aG.nil'))) (jl hr54) ?_
            refine step (v := vb r54) (aP (b := r50) rfl hg51 rfl) ?_
            refine q1 _ ?_
            have hh := ar hv
            subst hh
            exact nR []
           ·
            replace hv := aK hg51 hv
            iterate 21 refine qX _ hg51 ?_
            refine step (v := vb false) (aO (b := r50) rfl hg51 rfl) ?_
            refine q1 _ ?_
            have hh := ar hv
            subst hh
            exact nR []
          ·
           replace hv := aK hg46 hv
           iterate 21 refine qX _ hg46 ?_
           refine step (v := vb false) (aO (b := r45) rfl hg46 rfl) ?_
           refine q1 _ ?_
           iterate 21 refine qX false (by decide) ?_
           refine step (v := vb false) (aO (b := false) rfl (by decide) rfl) ?_
           refine q1 _ ?_
           have hh := ar hv
           subst hh
           exact nR []
         ·
          replace hv := aK hg42 hv
          iterate 13 refine qX _ hg42 ?_
          refine step (v := vb false) (aO (b := r41) rfl hg42 rfl) ?_
          refine q1 _ ?_
          iterate 21 refine qX false (by decide) ?_
          refine step (v := vb false) (aO (b := false) rfl (by decide) rfl) ?_
          refine q1 _ ?_
          iterate 21 refine qX false (by decide) ?_
          refine step (v := vb false) (aO (b := false) rfl (by decide) rfl) ?_
          refine q1 _ ?_
          have hh := ar hv
          subst hh
          exact nR []
        ·
         replace hv := aK hg36 hv
         iterate 21 refine qX _ hg36 ?_
         refine step (v := vb false) (aO (b := r35) rfl hg36 rfl) ?_
         refine q1 _ ?_
         iterate 13 refine qX false (by decide) ?_
         refine step (v := vb false) (aO (b := false) rfl (by decide) rfl) ?_
         refine q1 _ ?_
         iterate 21 refine qX false (by decide) ?_
         refine step (v := vb false) (aO (b := false) rfl (by decide) rfl) ?_
         refine q1 _ ?_
         iterate 21 refine qX false (by decide) ?_
         refine step (v := vb false) (aO (b := false) rfl (by decide) rfl) ?_
         refine q1 _ ?_
         have hh := ar hv
         subst hh
         exact nR []
       ·
        replace hv := aK hg29 hv
        iterate 23 refine qX _ hg29 ?_
        refine step (v := vb false) (aO (b := r28) rfl hg29 rfl) ?_
        refine q1 _ ?_
        iterate 21 refine qX false (by decide) ?_
        refine step (v := vb false) (aO (b := false) rfl (by decide) rfl) ?_
        refine q1 _ ?_
        iterate 13 refine qX false (by decide) ?_
        refine step (v := vb false) (aO (b := false) rfl (by decide) rfl) ?_
        refine q1 _ ?_
        iterate 21 refine qX false (by decide) ?_
        refine step (v := vb false) (aO (b := false) rfl (by decide) rfl) ?_
        refine q1 _ ?_
        iterate 21 refine qX false (by decide) ?_
        refine step (v := vb false) (aO (b := false) rfl (by decide) rfl) ?_
        refine q1 _ ?_
        have hh := ar hv
        subst hh
        exact nR []
      have hh := ar h
      subst hh
      refine aZ ?_
      show FQ _ _ _ _
      exact bp (.inr rfl) (bo (v := vb y55) rfl rfl) (RV.d trivial)
end Go.AM
