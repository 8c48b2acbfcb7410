import Derived.Test.YtnnkfanmokeiaaaPmW1
set_option linter.unusedVariables false
set_option linter.unusedSimpArgs false
namespace Go.AM
open Go Go.RowKit Go.Proofs
set_option maxRecDepth 10000
attribute [local irreducible] aM ck
set_option maxHeartbeats 2000000
theorem yM {self : ah → Int → Option Bool} (hself : ∀ (a0 : ah) (a1 : Int) (r : Bool), self a0 a1 = some r → PCall Try.prog 82 [a8 a0, .int .i64 a1] (.bool r)) {a0 : ah} {a1 : Int} {r : Bool} (h : k8 self a0 a1 = some r) : PCall Try.prog 82 [a8 a0, .int .i64 a1] (.bool r) := by
 refine PCall.introN xC (show 2 ≤ 127 by decide) ?_
 refine be (s0 := ⟨tab [(0, vs1 a0), (1, vi a1)], ac [], 0⟩) (nr []) ?_
 refine aj ⟨tab [(1, vi a1), (2, aD a0)], ac [], 0⟩ ?_ ?_
 ·
  iterate 2 refine q1 _ ?_
  exact nR []
 refine aj ⟨tab [(1, vi a1), (2, aD a0), (5, vi (a0.Kids.length : Int))], ac [], 0⟩ ?_ ?_
 ·
  iterate 2 refine q1 _ ?_
  refine step (v := vi (a0.Kids.length : Int)) (bE (xs := a0.Kids) (e := aq) rfl) ?_
  refine q1 _ ?_
  exact nR []
 refine aG ?_
 refine aj ⟨tab [(1, vi a1), (2, aD a0), (5, vi (a0.Kids.length : Int)), (11, vi a0.Op)], ac [], 0⟩ ?_ ?_
 ·
  iterate 2 refine q1 _ ?_
  exact nR []
 refine bJ ?_
 obtain ⟨y2, hv, h⟩ := ax h
 refine gh ⟨tab [(1, vi a1), (2, aD a0), (5, vi (a0.Kids.length : Int)), (11, vi a0.Op), (12, vb y2)], ac [], 0⟩ ?_ ?_
 ·
  replace h := hv
  refine aj ⟨tab [(1, vi a1), (2, aD a0), (5, vi (a0.Kids.length : Int)), (11, vi a0.Op), (12, vb (a0.Op == 0))], ac [], 0⟩ ?_ ?_
  ·
   iterate 2 refine q1 _ ?_
   exact nR []
  by_cases hc1 : (a0.Op == 0) = true
  ·
   replace h := aK hc1 h
   refine aW (t := (a0.Op == 0)) rfl hc1 ?_
   have hh := ap h
   subst hh
   refine be (s0 := ⟨tab [(1, vi a1), (2, aD a0), (5, vi (a0.Kids.length : Int)), (11, vi a0.Op), (12, vb (a0.Op == 0))], ac [], 0⟩) (nr []) ?_
   refine bo ?_
   exact And.intro rfl rfl
  ·
   replace h := aL hc1 h
   refine aT (t := (a0.Op == 0)) rfl hc1 ?_
   have hh := ap h
   subst hh
   refine bO ⟨tab [(1, vi a1), (2, aD a0), (5, vi (a0.Kids.length : Int)), (11, vi a0.Op), (12, vb (a0.Op == 1))], ac [], 0⟩ ?_ ?_
   ·
    iterate 2 refine q1 _ ?_
    exact nR []
   exact And.intro rfl rfl
 by_cases hc4 : y2 = true
 ·
  replace h := aK hc4 h
  refine aW (t := y2) rfl hc4 ?_
  refine aj ⟨tab [(4, vb (((a0.Kids.length : Int) == 0) && ((a0.F == 0) && (a0.N == 0))))], ac [], 0⟩ ?_ ?_
  ·
   iterate 3 refine q1 _ ?_
   by_cases hg5 : ((a0.Kids.length : Int) == 0) = true
   ·
    refine qG _ hg5 ?_
    refine q1 _ ?_
    refine qG _ hg5 ?_
    refine q1 _ ?_
    refine qG _ hg5 ?_
    refine q1 _ ?_
    refine step (v := vb (a0.F == 0)) (aO (b := ((a0.Kids.length : Int) == 0)) rfl hg5 rfl) ?_
    refine q1 _ ?_
    by_cases hg6 : (a0.F == 0) = true
    ·
     refine qG _ hg6 ?_
     refine q1 _ ?_
     refine qG _ hg6 ?_
     refine q1 _ ?_
     refine qG _ hg6 ?_
     refine q1 _ ?_
     refine step (v := vb (a0.N == 0)) (aO (b := (a0.F == 0)) rfl hg6 rfl) ?_
     refine q1 _ ?_
     exact aM.nil' (nm [] ⟨.eq (by first | (simp [hg5, hg6]; done) | (simp_all; done) | grind), trivial⟩ trivial)
    ·
     iterate 3 refine qX _ hg6 ?_
     refine step (v := vb false) (aS (b := (a0.F == 0)) rfl hg6 rfl) ?_
     refine q1 _ ?_
     exact aM.nil' (nm [] ⟨.eq (by first | (simp [hg5, hg6]; done) | (simp_all; done) | grind), trivial⟩ trivial)
   ·
    iterate 3 refine qX _ hg5 ?_
    refine step (v := vb false) (aS (b := ((a0.Kids.length : Int) == 0)) rfl hg5 rfl) ?_
    refine q1 _ ?_
    iterate 3 refine qX false (by decide) ?_
    refine step (v := vb false) (aS (b := false) rfl (by decide) rfl) ?_
    refine q1 _ ?_
    exact aM.nil' (nm [] ⟨.eq (by first | (simp [hg5]; done) | (simp_all; done) | grind), trivial⟩ trivial)
  have hh := ap h
  subst hh
  refine aU ?_
  show FQ _ _ _ _
  exact bk (.inr rfl) (bp (v := vb (((a0.Kids.length : Int) == 0) && ((a0.F == 0) && (a0.N == 0)))) rfl rfl) (RV.d trivial)
 ·
  replace h := aL hc4 h
  refine aT (t := y2) rfl hc4 ?_
  refine aj ⟨tab [(1, vi a1), (2, aD a0), (5, vi (a0.Kids.length : Int)), (11, vi a0.Op), (27, vb (a0.Op == 2))], ac [], 0⟩ ?_ ?_
  ·
   iterate 2 refine q1 _ ?_
   exact nR []
  by_cases hc7 : (a0.Op == 2) = true
  ·
   replace h := aK hc7 h
   refine aW (t := (a0.Op == 2)) rfl hc7 ?_
   refine aj ⟨tab [(4, vb (((a0.Kids.length : Int) == 0) && ((decide (a0.F ≥ 0)) && (decide (a0.F < 8)))))], ac [], 0⟩ ?_ ?_
   ·
    iterate 3 refine q1 _ ?_
    by_cases hg8 : ((a0.Kids.length : Int) == 0) = true
    ·
     refine qG _ hg8 ?_
     refine q1 _ ?_
     refine qG _ hg8 ?_
     refine q1 _ ?_
     refine qG _ hg8 ?_
     refine q1 _ ?_
     refine step (v := vb (decide (a0.F ≥ 0))) (aO (b := ((a0.Kids.length : Int) == 0)) rfl hg8 rfl) ?_
     refine q1 _ ?_
     by_cases hg9 : decide (a0.F ≥ 0) = true
     ·
      refine qG _ hg9 ?_
      refine q1 _ ?_
      refine qG _ hg9 ?_
      refine q1 _ ?_
      refine qG _ hg9 ?_
      refine q1 _ ?_
      refine step (v := vb (decide (a0.F < 8))) (aO (b := decide (a0.F ≥ 0)) rfl hg9 rfl) ?_
      refine q1 _ ?_
      exact aM.nil' (nm [] ⟨.eq (by first | (simp [hg8, hg9]; done) | (simp_all; done) | grind), trivial⟩ trivial)
     ·
      iterate 3 refine qX _ hg9 ?_
      refine step (v := vb false) (aS (b := decide (a0.F ≥ 0)) rfl hg9 rfl) ?_
      refine q1 _ ?_
      exact aM.nil' (nm [] ⟨.eq (by first | (simp [hg8, hg9]; done) | (simp_all; done) | grind), trivial⟩ trivial)
    ·
     iterate 3 refine qX _ hg8 ?_
     refine step (v := vb false) (aS (b := ((a0.Kids.length : Int) == 0)) rfl hg8 rfl) ?_
     refine q1 _ ?_
     iterate 3 refine qX false (by decide) ?_
     refine step (v := vb false) (aS (b := false) rfl (by decide) rfl) ?_
     refine q1 _ ?_
     exact aM.nil' (nm [] ⟨.eq (by first | (simp [hg8]; done) | (simp_all; done) | grind), trivial⟩ trivial)
   have hh := ap h
   subst hh
   refine aU ?_
   show FQ _ _ _ _
   exact bk (.inr rfl) (bp (v := vb (((a0.Kids.length : Int) == 0) && ((decide (a0.F ≥ 0)) && (decide (a0.F < 8))))) rfl rfl) (RV.d trivial)
  ·
   replace h := aL hc7 h
   refine aT (t := (a0.Op == 2)) rfl hc7 ?_
   refine aj ⟨tab [(1, vi a1), (2, aD a0), (5, vi (a0.Kids.length : Int)), (11, vi a0.Op), (41, vb (a0.Op == 3))], ac [], 0⟩ ?_ ?_
   ·
    iterate 2 refine q1 _ ?_
    exact nR []
   by_cases hc10 : (a0.Op == 3) = true
   ·
    replace h := aK hc10 h
    refine aW (t := (a0.Op == 3)) rfl hc10 ?_
    refine aj ⟨tab [(4, vb (((a0.Kids.length : Int) == 0) && ((decide (a0.F ≥ 0)) && (decide (a0.F < a1)))))], ac [], 0⟩ ?_ ?_
    ·
     iterate 3 refine q1 _ ?_
     by_cases hg11 : ((a0.Kids.length : Int) == 0) = true
     ·
      refine qG _ hg11 ?_
      refine q1 _ ?_
      refine qG _ hg11 ?_
      refine q1 _ ?_
      refine qG _ hg11 ?_
      refine q1 _ ?_
      refine step (v := vb (decide (a0.F ≥ 0))) (aO (b := ((a0.Kids.length : Int) == 0)) rfl hg11 rfl) ?_
      refine q1 _ ?_
      by_cases hg12 : decide (a0.F ≥ 0) = true
      ·
       refine qG _ hg12 ?_
       refine q1 _ ?_
       refine qG _ hg12 ?_
       refine q1 _ ?_
       refine qG _ hg12 ?_
       refine q1 _ ?_
       refine qG _ hg12 ?_
       refine q1 _ ?_
       refine step (v := vb (decide (a0.F < a1))) (aO (b := decide (a0.F ≥ 0)) rfl hg12 rfl) ?_
       refine q1 _ ?_
       exact aM.nil' (nm [] ⟨.eq (by first | (simp [hg11, hg12]; done) | (simp_all; done) | grind), trivial⟩ trivial)
      ·
       iterate 4 refine qX _ hg12 ?_
       refine step (v := vb false) (aS (b := decide (a0.F ≥ 0)) rfl hg12 rfl) ?_
       refine q1 _ ?_
       exact aM.nil' (nm [] ⟨.eq (by first | (simp [hg11, hg12]; done) | (simp_all; done) | grind), trivial⟩ trivial)
     ·
      iterate 3 refine qX _ hg11 ?_
      refine step (v := vb false) (aS (b := ((a0.Kids.length : Int) == 0)) rfl hg11 rfl) ?_
      refine q1 _ ?_
      iterate 4 refine qX false (by decide) ?_
      refine step (v := vb false) (aS (b := false) rfl (by decide) rfl) ?_
      refine q1 _ ?_
      exact aM.nil' (nm [] ⟨.eq (by first | (simp [hg11]; done) | (simp_all; done) | grind), trivial⟩ trivial)
    have hh := ap h
    subst hh
    refine aU ?_
    show FQ _ _ _ _
    exact bk (.inr rfl) (bp (v := vb (((a0.Kids.length : Int) == 0) && ((decide (a0.F ≥ 0)) && (decide (a0.F < a1))))) rfl rfl) (RV.d trivial)
   ·
    replace h := aL hc10 h
    refine aT (t := (a0.Op == 3)) rfl hc10 ?_
    refine aj ⟨tab [(1, vi a1), (2, aD a0), (5, vi (a0.Kids.length : Int)), (11, vi a0.Op), (56, vb (a0.Op == 5))], ac [], 0⟩ ?_ ?_
    ·
     iterate 2 refine q1 _ ?_
     exact nR []
    by_cases hc13 : (a0.Op == 5) = true
    ·
     replace h := aK hc13 h
     refine aW (t := (a0.Op == 5)) rfl hc13 ?_
     refine aj ⟨tab [(4, vb (((a0.Kids.length : Int) == 0) && ((decide (a0.F ≥ 1)) && (decide (a0.F < 8)))))], ac [], 0⟩ ?_ ?_
     ·
      iterate 3 refine q1 _ ?_
      by_cases hg14 : ((a0.Kids.length : Int) == 0) = true
      ·
       refine qG _ hg14 ?_
       refine q1 _ ?_
       refine qG _ hg14 ?_
       refine q1 _ ?_
       refine qG _ hg14 ?_
       refine q1 _ ?_
       refine step (v := vb (decide (a0.F ≥ 1))) (aO (b := ((a0.Kids.length : Int) == 0)) rfl hg14 rfl) ?_
       refine q1 _ ?_
       by_cases hg15 : decide (a0.F ≥ 1) = true
       ·
        refine qG _ hg15 ?_
        refine q1 _ ?_
        refine qG _ hg15 ?_
        refine q1 _ ?_
        refine qG _ hg15 ?_
        refine q1 _ ?_
        refine step (v := vb (decide (a0.F < 8))) (aO (b := decide (a0.F ≥ 1)) rfl hg15 rfl) ?_
        refine q1 _ ?_
        exact aM.nil' (nm [] ⟨.eq (by first | (simp [hg14, hg15]; done) | (simp_all; done) | grind), trivial⟩ trivial)
       ·
        iterate 3 refine qX _ hg15 ?_
        refine step (v := vb false) (aS (b := decide (a0.F ≥ 1)) rfl hg15 rfl) ?_
        refine q1 _ ?_
        exact aM.nil' (nm [] ⟨.eq (by first | (simp [hg14, hg15]; done) | (simp_all; done) | grind), trivial⟩ trivial)
      ·
       iterate 3 refine qX _ hg14 ?_
       refine step (v := vb false) (aS (b := ((a0.Kids.length : Int) == 0)) rfl hg14 rfl) ?_
       refine q1 _ ?_
       iterate 3 refine qX false (by decide) ?_
       refine step (v := vb false) (aS (b := false) rfl (by decide) rfl) ?_
       refine q1 _ ?_
       exact aM.nil' (nm [] ⟨.eq (by first | (simp [hg14]; done) | (simp_all; done) | grind), trivial⟩ trivial)
     have hh := ap h
     subst hh
     refine aU ?_
     show FQ _ _ _ _
     exact bk (.inr rfl) (bp (v := vb (((a0.Kids.length : Int) == 0) && ((decide (a0.F ≥ 1)) && (decide (a0.F < 8))))) rfl rfl) (RV.d trivial)
    ·
     replace h := aL hc13 h
     refine aT (t := (a0.Op == 5)) rfl hc13 ?_
     refine aj ⟨tab [(1, vi a1), (2, aD a0), (5, vi (a0.Kids.length : Int)), (11, vi a0.Op), (70, vb (a0.Op == 4))], ac [], 0⟩ ?_ ?_
     ·
      iterate 2 refine q1 _ ?_
      exact nR []
     by_cases hc16 : (a0.Op == 4) = true
     ·
      replace h := aK hc16 h
      refine aW (t := (a0.Op == 4)) rfl hc16 ?_
      obtain ⟨y24, hv, h⟩ := ax h
      refine aj ⟨tab [(4, vb y24)], ac [], 0⟩ ?_ ?_
      ·
       iterate 3 refine q1 _ ?_
       by_cases hg17 : ((a0.Kids.length : Int) == 1) = true
       ·
        replace hv := aK hg17 hv
        refine qG _ hg17 ?_
        refine q1 _ ?_
        refine qG _ hg17 ?_
        refine q1 _ ?_
        refine qG _ hg17 ?_
        refine q1 _ ?_
        refine step (v := vb (a0.F == 0)) (aO (b := ((a0.Kids.length : Int) == 1)) rfl hg17 rfl) ?_
        refine q1 _ ?_
        by_cases hg18 : (a0.F == 0) = true
        ·
         replace hv := aK hg18 hv
         refine qG _ hg18 ?_
         refine q1 _ ?_
         refine qG _ hg18 ?_
         refine q1 _ ?_
         refine qG _ hg18 ?_
         refine q1 _ ?_
         refine step (v := vb (a0.N == 0)) (aO (b := (a0.F == 0)) rfl hg18 rfl) ?_
         refine q1 _ ?_
         by_cases hg19 : (a0.N == 0) = true
         ·
          replace hv := aK hg19 hv
          obtain ⟨x20, hx20, hv⟩ := ax hv
          obtain ⟨r21, hr21, hv⟩ := ax hv
          refine qG _ hg19 ?_
          refine q1 _ ?_
          refine qG _ hg19 ?_
          refine q1 _ ?_
          refine qG _ hg19 ?_
          refine step (v := aD x20) (dI (xs := a0.Kids) (e := aq) hx20 rfl rfl (cq _)) ?_
          refine qG _ hg19 ?_
          refine q1 _ ?_
          refine qG _ hg19 ?_
          refine bu (r := .bool r21) (aJ aQ.nil') (yL hr21) ?_
          refine step (v := vb r21) (aO (b := (a0.N == 0)) rfl hg19 rfl) ?_
          refine q1 _ ?_
          by_cases hg22 : r21 = true
          ·
           replace hv := aK hg22 hv
           obtain ⟨r23, hr23, hv⟩ := ax hv
           refine qG _ hg22 ?_
           refine q1 _ ?_
           refine qG _ hg22 ?_
           refine q1 _ ?_
           refine qG _ hg22 ?_
           refine step (v := aD x20) (dI (xs := a0.Kids) (e := aq) hx20 rfl rfl (cq _)) ?_
           refine qG _ hg22 ?_
           refine q1 _ ?_
           refine qG _ hg22 ?_
           refine q1 _ ?_
           refine qG _ hg22 ?_
           refine bu (r := .bool r23) (aJ (aJ aQ.nil')) (hself _ _ _ hr23) ?_
           refine step (v := vb r23) (aO (b := r21) rfl hg22 rfl) ?_
           refine q1 _ ?_
           have hh := ap hv
           subst hh
           exact nR []
          ·
           replace hv := aL hg22 hv
           iterate 6 refine qX _ hg22 ?_
           refine step (v := vb false) (aS (b := r21) rfl hg22 rfl) ?_
           refine q1 _ ?_
           have hh := ap hv
           subst hh
           exact nR []
         ·
          replace hv := aL hg19 hv
          iterate 5 refine qX _ hg19 ?_
          refine step (v := vb false) (aS (b := (a0.N == 0)) rfl hg19 rfl) ?_
          refine q1 _ ?_
          iterate 6 refine qX false (by decide) ?_
          refine step (v := vb false) (aS (b := false) rfl (by decide) rfl) ?_
          refine q1 _ ?_
          have hh := ap hv
          subst hh
          exact nR []
        ·
         replace hv := aL hg18 hv
         iterate 3 refine qX _ hg18 ?_
         refine step (v := vb false) (aS (b := (a0.F == 0)) rfl hg18 rfl) ?_
         refine q1 _ ?_
         iterate 5 refine qX false (by decide) ?_
         refine step (v := vb false) (aS (b := false) rfl (by decide) rfl) ?_
         refine q1 _ ?_
         iterate 6 refine qX false (by decide) ?_
         refine step (v := vb false) (aS (b := false) rfl (by decide) rfl) ?_
         refine q1 _ ?_
         have hh := ap hv
         subst hh
         exact nR []
       ·
        replace hv := aL hg17 hv
        iterate 3 refine qX _ hg17 ?_
        refine step (v := vb false) (aS (b := ((a0.Kids.length : Int) == 1)) rfl hg17 rfl) ?_
        refine q1 _ ?_
        iterate 3 refine qX false (by decide) ?_
        refine step (v := vb false) (aS (b := false) rfl (by decide) rfl) ?_
        refine q1 _ ?_
        iterate 5 refine qX false (by decide) ?_
        refine step (v := vb false) (aS (b := false) rfl (by decide) rfl) ?_
        refine q1 _ ?_
        iterate 6 refine qX false (by decide) ?_
        refine step (v := vb false) (aS (b := false) rfl (by decide) rfl) ?_
        refine q1 _ ?_
        have hh := ap hv
        subst hh
        exact nR []
      have hh := ap h
      subst hh
      refine aU ?_
      show FQ _ _ _ _
      exact bk (.inr rfl) (bp (v := vb y24) rfl rfl) (RV.d trivial)
     ·
      replace h := aL hc16 h
      refine aT (t := (a0.Op == 4)) rfl hc16 ?_
      obtain ⟨y27, hv, h⟩ := ax h
      refine gh ⟨tab [(1, vi a1), (2, aD a0), (5, vi (a0.Kids.length : Int)), (99, vb y27)], ac [], 0⟩ ?_ ?_
      ·
       replace h := hv
       refine aj ⟨tab [(1, vi a1), (2, aD a0), (5, vi (a0.Kids.length : Int)), (11, vi a0.Op), (99, vb (a0.Op == 6))], ac [], 0⟩ ?_ ?_
       ·
        iterate 2 refine q1 _ ?_
        exact nR []
       by_cases hc26 : (a0.Op == 6) = true
       ·
        replace h := aK hc26 h
        refine aW (t := (a0.Op == 6)) rfl hc26 ?_
        have hh := ap h
        subst hh
        refine be (s0 := ⟨tab [(1, vi a1), (2, aD a0), (5, vi (a0.Kids.length : Int)), (99, vb (a0.Op == 6))], ac [], 0⟩) (nr []) ?_
        refine bo ?_
        exact And.intro rfl rfl
       ·
        replace h := aL hc26 h
        refine aT (t := (a0.Op == 6)) rfl hc26 ?_
        have hh := ap h
        subst hh
        refine bO ⟨tab [(1, vi a1), (2, aD a0), (5, vi (a0.Kids.length : Int)), (99, vb (a0.Op == 7))], ac [], 0⟩ ?_ ?_
        ·
         iterate 2 refine q1 _ ?_
         exact nR []
        exact And.intro rfl rfl
      by_cases hc29 : y27 = true
      ·
       replace h := aK hc29 h
       refine aW (t := y27) rfl hc29 ?_
       refine aG ?_
       refine aj ⟨tab [(1, vi a1), (2, aD a0), (5, vi (a0.Kids.length : Int)), (113, vb ((decide ((a0.Kids.length : Int) < 2)) || ((a0.F != 0) || (a0.N != 0))))], ac [], 0⟩ ?_ ?_
       ·
        iterate 3 refine q1 _ ?_
        by_cases hg30 : decide ((a0.Kids.length : Int) < 2) = true
        ·
         iterate 3 refine qX (decide ((a0.Kids.length : Int) < 2)) (by rw [hg30]; decide) ?_
         refine step (v := vb true) (aO (b := decide ((a0.Kids.length : Int) < 2)) rfl hg30 rfl) ?_
         refine q1 _ ?_
         iterate 3 refine qX true (by decide) ?_
         refine step (v := vb true) (aO (b := true) rfl rfl rfl) ?_
         exact aM.nil' (nm [] ⟨.d _, .d _, .d _, .eq (by first | (simp [hg30]; done) | (simp_all; done) | grind), trivial⟩ trivial)
        ·
         refine qG (decide ((a0.Kids.length : Int) < 2)) (Bool.eq_false_iff.2 hg30) ?_
         refine q1 _ ?_
         refine qG (decide ((a0.Kids.length : Int) < 2)) (Bool.eq_false_iff.2 hg30) ?_
         refine q1 _ ?_
         refine qG (decide ((a0.Kids.length : Int) < 2)) (Bool.eq_false_iff.2 hg30) ?_
         refine q1 _ ?_
         refine step (v := vb (a0.F != 0)) (aS (b := decide ((a0.Kids.length : Int) < 2)) rfl hg30 rfl) ?_
         refine q1 _ ?_
         by_cases hg31 : (a0.F != 0) = true
         ·
          iterate 3 refine qX (a0.F != 0) (by rw [hg31]; decide) ?_
          refine step (v := vb true) (aO (b := (a0.F != 0)) rfl hg31 rfl) ?_
          exact aM.nil' (nm [] ⟨.d _, .d _, .d _, .eq (by first | (simp [hg30, hg31]; done) | (simp_all; done) | grind), trivial⟩ trivial)
         ·
          refine qG (a0.F != 0) (Bool.eq_false_iff.2 hg31) ?_
          refine q1 _ ?_
          refine qG (a0.F != 0) (Bool.eq_false_iff.2 hg31) ?_
          refine q1 _ ?_
          refine qG (a0.F != 0) (Bool.eq_false_iff.2 hg31) ?_
          refine q1 _ ?_
          refine step (v := vb (a0.N != 0)) (aS (b := (a0.F != 0)) rfl hg31 rfl) ?_
          exact aM.nil' (nm [] ⟨.d _, .d _, .d _, .eq (by first | (simp [hg30, hg31]; done) | (simp_all; done) | grind), trivial⟩ trivial)
       by_cases hc32 : ((decide ((a0.Kids.length : Int) < 2)) || ((a0.F != 0) || (a0.N != 0))) = true
       ·
        replace h := aK hc32 h
        refine aW (t := ((decide ((a0.Kids.length : Int) < 2)) || ((a0.F != 0) || (a0.N != 0)))) rfl hc32 ?_
        refine aj ⟨tab [(4, vb false)], ac [], 0⟩ ?_ ?_
        ·
         refine q1 _ ?_
         exact nR []
        have hh := ap h
        subst hh
        refine aU ?_
        show FQ _ _ _ _
        exact bk (.inr rfl) (bp (v := vb false) rfl rfl) (RV.d trivial)
       ·
        replace h := aL hc32 h
        refine aT (t := ((decide ((a0.Kids.length : Int) < 2)) || ((a0.F != 0) || (a0.N != 0)))) rfl hc32 ?_
        refine bo ?_
        refine aG ?_
        refine aj ⟨tab [(1, vi a1), (2, aD a0), (5, vi (a0.Kids.length : Int)), (6, vi 0)], ac [], 0⟩ ?_ ?_
        ·
         refine q1 _ ?_
         exact nR []
        obtain ⟨q42, hl, h⟩ := ax h
        refine bJ ?_
        refine ew (cQ (a0.Kids.length : Int)) (fun (i33 : Int) (qq : Unit) => ⟨tab [(1, vi a1), (2, aD a0), (5, vi (a0.Kids.length : Int)), (6, vi i33)], ac [], 0⟩) 1 (fun (qq : Unit) => ⟨tab [], ac [], 0⟩) bK cR (r := r) hl (by unfold bK; omega) ?_ ?_ ?_ ?_
        ·
         rintro i33 ⟨⟩ xr38 hinv36 hgo35 h
         show aI _ _ _ _ _ ⟨tab [(1, vi a1), (2, aD a0), (5, vi (a0.Kids.length : Int)), (6, vi i33)], ac [], 0⟩
         have hc37 : decide (i33 < (a0.Kids.length : Int)) = true := decide_eq_true hgo35
         refine aG ?_
         refine aj ⟨tab [(1, vi a1), (2, aD a0), (5, vi (a0.Kids.length : Int)), (6, vi i33), (115, vi (a0.Kids.length : Int)), (116, vb (decide (i33 < (a0.Kids.length : Int))))], ac [], 0⟩ ?_ ?_
         ·
          iterate 3 refine q1 _ ?_
          exact nR []
         refine cY 115 rfl fun hB34 => ?_
         refine aW (t := decide (i33 < (a0.Kids.length : Int))) rfl hc37 ?_
         refine bo ?_
         refine aG ?_
         refine bJ ?_
         obtain ⟨x39, hx39, h⟩ := ax h
         obtain ⟨r40, hr40, h⟩ := ax h
         refine aj ⟨tab [(1, vi a1), (2, aD a0), (5, vi (a0.Kids.length : Int)), (6, vi i33), (126, vb (!r40))], ac [], 0⟩ ?_ ?_
         ·
          iterate 3 refine q1 _ ?_
          refine step (v := aD x39) (dI (xs := a0.Kids) (e := aq) hx39 rfl rfl (cq _)) ?_
          iterate 2 refine q1 _ ?_
          refine bu (r := .bool r40) (aJ (aJ aQ.nil')) (hself _ _ _ hr40) ?_
          refine q1 _ ?_
          exact nR []
         by_cases hc41 : (!r40) = true
         ·
          replace h := aK hc41 h
          refine aW (t := (!r40)) rfl hc41 ?_
          refine aj ⟨tab [(4, vb false)], ac [], 0⟩ ?_ ?_
          ·
           refine q1 _ ?_
           exact nR []
          obtain ⟨r42, kr42, hr⟩ := c8 (o := some false) (g := Br.ret) h
          subst hr
          have h := kr42
          have hh := ap h
          subst hh
          refine aU ?_
          refine And.intro (fun hn => nomatch hn) ?_
          intro hq
          have hq := hq.symm
          subst hq
          show FQ _ _ _ _
          exact bk (.inr rfl) (bp (v := vb false) rfl rfl) (RV.d trivial)
         ·
          replace h := aL hc41 h
          refine aT (t := (!r40)) rfl hc41 ?_
          refine bo ?_
          have hh := ap h
          subst hh
          refine bO ⟨tab [(1, vi a1), (2, aD a0), (5, vi (a0.Kids.length : Int)), (6, vi (i33 + 1))], ac [], 0⟩ ?_ ?_
          ·
           refine q1 _ ?_
           refine step (v := vi (i33 + 1)) (cS (cT hinv36 hgo35 hB34) rfl rfl) ?_
           refine q1 _ ?_
           exact nR []
          exact And.intro rfl rfl
        ·
         rintro i33 ⟨⟩ hinv36 hgo35
         show aI _ _ _ _ _ ⟨tab [(1, vi a1), (2, aD a0), (5, vi (a0.Kids.length : Int)), (6, vi i33)], ac [], 0⟩
         have hc37 : ¬ (decide (i33 < (a0.Kids.length : Int)) = true) := fun hq => hgo35 (of_decide_eq_true hq)
         refine aG ?_
         refine aj ⟨tab [(1, vi a1), (2, aD a0), (5, vi (a0.Kids.length : Int)), (6, vi i33), (116, vb (decide (i33 < (a0.Kids.length : Int))))], ac [], 0⟩ ?_ ?_
         ·
          iterate 3 refine q1 _ ?_
          exact nR []
         refine aT (t := decide (i33 < (a0.Kids.length : Int))) rfl hc37 ?_
         refine be (s0 := ⟨tab [], ac [], 0⟩) (nr []) ?_
         refine cN ?_
         exact And.intro rfl rfl
        ·
         intro r' hq
         subst hq
         exact ap h
        rintro ⟨⟩ rfl
        refine aj ⟨tab [(4, vb true)], ac [], 0⟩ ?_ ?_
        ·
         refine q1 _ ?_
         exact nR []
        have hh := ap h
        subst hh
        refine aU ?_
        show FQ _ _ _ _
        exact bk (.inr rfl) (bp (v := vb true) rfl rfl) (RV.d trivial)
      ·
       replace h := aL hc29 h
       refine aT (t := y27) rfl hc29 ?_
       refine bo ?_
       refine aj ⟨tab [(4, vb false)], ac [], 0⟩ ?_ ?_
       ·
        refine q1 _ ?_
        exact nR []
       have hh := ap h
       subst hh
       refine aU ?_
       show FQ _ _ _ _
       exact bk (.inr rfl) (bp (v := vb false) rfl rfl) (RV.d trivial)
theorem rR : ∀ (k : Nat) (a0 : ah) (a1 : Int) (r : Bool), iR k a0 a1 = some r → PCall Try.prog 82 [a8 a0, .int .i64 a1] (.bool r)
 | 0, _, _, _, h => by cases h
 | k + 1, _, _, _, h => yM (rR k) h
theorem yN {a0 : ah} {a1 : Int} {r : Bool} (h : nc a0 a1 = some r) : PCall Try.prog 82 [a8 a0, .int .i64 a1] (.bool r) := rR cn _ _ _ h
theorem nZ {a0 : (List eO)} {a1 : Int} {r : Bool} (h : k9 a0 a1 = some r) : PCall Try.prog 83 [eL (some 2) cI a0, .int .i64 a1] (.bool r) := by
 refine PCall.introN xF (show 2 ≤ 45 by decide) ?_
 refine be (s0 := ⟨tab [(0, bC a0), (1, vi a1)], ac [], 0⟩) (nr []) ?_
 refine aj ⟨tab [(0, bC a0), (1, vi a1)], ac [], 0⟩ ?_ ?_
 ·
  refine q1 _ ?_
  exact nR []
 refine aG ?_
 refine aj ⟨tab [(0, bC a0), (1, vi a1), (5, vi 0)], ac [], 0⟩ ?_ ?_
 ·
  refine q1 _ ?_
  exact nR []
 obtain ⟨q15, hl, h⟩ := ax h
 refine bJ ?_
 refine ew (cQ (a0.length : Int)) (fun (i1 : Int) (qq : Unit) => ⟨tab [(0, bC a0), (1, vi a1), (5, vi i1)], ac [], 0⟩) 0 (fun (qq : Unit) => ⟨tab [], ac [], 0⟩) bK cR (r := r) hl (by unfold bK; omega) ?_ ?_ ?_ ?_
 ·
  rintro i1 ⟨⟩ xr6 hinv4 hgo3 h
  show aI _ _ _ _ _ ⟨tab [(0, bC a0), (1, vi a1), (5, vi i1)], ac [], 0⟩
  have hc5 : decide (i1 < (a0.length : Int)) = true := decide_eq_true hgo3
  refine aG ?_
  refine aj ⟨tab [(0, bC a0), (1, vi a1), (5, vi i1), (8, vi (a0.length : Int)), (9, vb (decide (i1 < (a0.length : Int))))], ac [], 0⟩ ?_ ?_
  ·
   iterate 2 refine q1 _ ?_
   refine step (v := vi (a0.length : Int)) (bE (xs := a0) (e := cI) rfl) ?_
   refine q1 _ ?_
   exact nR []
  refine cY 8 rfl fun hB2 => ?_
  refine aW (t := decide (i1 < (a0.length : Int))) rfl hc5 ?_
  refine bo ?_
  refine aG ?_
  refine bJ ?_
  obtain ⟨x7, hx7, h⟩ := ax h
  obtain ⟨y12, hv, h⟩ := ax h
  refine aj ⟨tab [(0, bC a0), (1, vi a1), (5, vi i1), (44, vb y12)], ac [], 0⟩ ?_ ?_
  ·
   iterate 2 refine q1 _ ?_
   refine step (v := fS x7) (de (xs := a0) (e := cI) hx7 rfl rfl) ?_
   iterate 4 refine q1 _ ?_
   by_cases hg8 : decide (x7.F < 0) = true
   ·
    replace hv := aK hg8 hv
    iterate 7 refine qX (decide (x7.F < 0)) (by rw [hg8]; decide) ?_
    refine step (v := vb true) (aO (b := decide (x7.F < 0)) rfl hg8 rfl) ?_
    refine q1 _ ?_
    iterate 3 refine qX true (by decide) ?_
    refine bQ rfl ?_
    refine bQ rfl ?_
    refine bQ rfl ?_
    refine bQ rfl ?_
    refine bQ rfl ?_
    refine bQ rfl ?_
    refine bQ rfl ?_
    refine bQ rfl ?_
    refine bQ rfl ?_
    refine bQ rfl ?_
    refine bQ rfl ?_
    refine bQ rfl ?_
    refine qX true (by decide) ?_
    refine step (v := vb true) (aO (b := true) rfl rfl rfl) ?_
    have hh := ap hv
    subst hh
    exact nR []
   ·
    replace hv := aL hg8 hv
    refine qG (decide (x7.F < 0)) (Bool.eq_false_iff.2 hg8) ?_
    refine q1 _ ?_
    refine qG (decide (x7.F < 0)) (Bool.eq_false_iff.2 hg8) ?_
    refine q1 _ ?_
    refine qG (decide (x7.F < 0)) (Bool.eq_false_iff.2 hg8) ?_
    refine step (v := fS x7) (de (xs := a0) (e := cI) hx7 rfl rfl) ?_
    refine qG (decide (x7.F < 0)) (Bool.eq_false_iff.2 hg8) ?_
    refine q1 _ ?_
    refine qG (decide (x7.F < 0)) (Bool.eq_false_iff.2 hg8) ?_
    refine q1 _ ?_
    refine qG (decide (x7.F < 0)) (Bool.eq_false_iff.2 hg8) ?_
    refine q1 _ ?_
    refine qG (decide (x7.F < 0)) (Bool.eq_false_iff.2 hg8) ?_
    refine q1 _ ?_
    refine step (v := vb (decide (x7.F ≥ a1))) (aS (b := decide (x7.F < 0)) rfl hg8 rfl) ?_
    refine q1 _ ?_
    by_cases hg9 : decide (x7.F ≥ a1) = true
    ·
     replace hv := aK hg9 hv
     iterate 3 refine qX (decide (x7.F ≥ a1)) (by rw [hg9]; decide) ?_
     refine bQ rfl ?_
     refine bQ rfl ?_
     refine bQ rfl ?_
     refine bQ rfl ?_
     refine bQ rfl ?_
     refine bQ rfl ?_
     refine bQ rfl ?_
     refine bQ rfl ?_
     refine bQ rfl ?_
     refine bQ rfl ?_
     refine bQ rfl ?_
     refine bQ rfl ?_
     refine qX (decide (x7.F ≥ a1)) (by rw [hg9]; decide) ?_
     refine step (v := vb true) (aO (b := decide (x7.F ≥ a1)) rfl hg9 rfl) ?_
     have hh := ap hv
     subst hh
     exact nR []
    ·
     replace hv := aL hg9 hv
     refine qG (decide (x7.F ≥ a1)) (Bool.eq_false_iff.2 hg9) ?_
     refine q1 _ ?_
     refine qG (decide (x7.F ≥ a1)) (Bool.eq_false_iff.2 hg9) ?_
     refine q1 _ ?_
     refine qG (decide (x7.F ≥ a1)) (Bool.eq_false_iff.2 hg9) ?_
     refine q1 _ ?_
     by_cases hg10 : decide (i1 > 0) = true
     ·
      replace hv := aK hg10 hv
      obtain ⟨x11, hx11, hv⟩ := ax hv
      refine qG _ hg10 ?_
      refine q1 _ ?_
      refine qG _ hg10 ?_
      refine q1 _ ?_
      refine qG _ hg10 ?_
      refine q1 _ ?_
      refine qG _ hg10 ?_
      refine step (v := fS x11) (de (xs := a0) (e := cI) hx11 rfl rfl) ?_
      refine qG _ hg10 ?_
      refine q1 _ ?_
      refine qG _ hg10 ?_
      refine q1 _ ?_
      refine qG _ hg10 ?_
      refine q1 _ ?_
      refine qG _ hg10 ?_
      refine q1 _ ?_
      refine qG _ hg10 ?_
      refine step (v := fS x7) (de (xs := a0) (e := cI) hx7 rfl rfl) ?_
      refine qG _ hg10 ?_
      refine q1 _ ?_
      refine qG _ hg10 ?_
      refine q1 _ ?_
      refine qG _ hg10 ?_
      refine q1 _ ?_
      refine qG (decide (x7.F ≥ a1)) (Bool.eq_false_iff.2 hg9) ?_
      refine step (v := vb (decide (x11.F ≥ x7.F))) (aO (b := decide (i1 > 0)) rfl hg10 rfl) ?_
      refine step (v := vb (decide (x11.F ≥ x7.F))) (aS (b := decide (x7.F ≥ a1)) rfl hg9 rfl) ?_
      have hh := ap hv
      subst hh
      exact nR []
     ·
      replace hv := aL hg10 hv
      iterate 12 refine qX _ hg10 ?_
      refine qG (decide (x7.F ≥ a1)) (Bool.eq_false_iff.2 hg9) ?_
      refine step (v := vb false) (aS (b := decide (i1 > 0)) rfl hg10 rfl) ?_
      refine step (v := vb false) (aS (b := decide (x7.F ≥ a1)) rfl hg9 rfl) ?_
      have hh := ap hv
      subst hh
      exact nR []
  by_cases hc14 : y12 = true
  ·
   replace h := aK hc14 h
   refine aW (t := y12) rfl hc14 ?_
   refine aj ⟨tab [(4, vb false)], ac [], 0⟩ ?_ ?_
   ·
    refine q1 _ ?_
    exact nR []
   obtain ⟨r15, kr15, hr⟩ := c8 (o := some false) (g := Br.ret) h
   subst hr
   have h := kr15
   have hh := ap h
   subst hh
   refine aU ?_
   refine And.intro (fun hn => nomatch hn) ?_
   intro hq
   have hq := hq.symm
   subst hq
   show FQ _ _ _ _
   exact bk (.inr rfl) (bp (v := vb false) rfl rfl) (RV.d trivial)
  ·
   replace h := aL hc14 h
   refine aT (t := y12) rfl hc14 ?_
   refine bo ?_
   have hh := ap h
   subst hh
   refine bO ⟨tab [(0, bC a0), (1, vi a1), (5, vi (i1 + 1))], ac [], 0⟩ ?_ ?_
   ·
    refine q1 _ ?_
    refine step (v := vi (i1 + 1)) (cS (cT hinv4 hgo3 hB2) rfl rfl) ?_
    refine q1 _ ?_
    exact nR []
   exact And.intro rfl rfl
 ·
  rintro i1 ⟨⟩ hinv4 hgo3
  show aI _ _ _ _ _ ⟨tab [(0, bC a0), (1, vi a1), (5, vi i1)], ac [], 0⟩
  have hc5 : ¬ (decide (i1 < (a0.length : Int)) = true) := fun hq => hgo3 (of_decide_eq_true hq)
  refine aG ?_
  refine aj ⟨tab [(0, bC a0), (1, vi a1), (5, vi i1), (9, vb (decide (i1 < (a0.length : Int))))], ac [], 0⟩ ?_ ?_
  ·
   iterate 2 refine q1 _ ?_
   refine step (v := vi (a0.length : Int)) (bE (xs := a0) (e := cI) rfl) ?_
   refine q1 _ ?_
   exact nR []
  refine aT (t := decide (i1 < (a0.length : Int))) rfl hc5 ?_
  refine be (s0 := ⟨tab [], ac [], 0⟩) (nr []) ?_
  refine cN ?_
  exact And.intro rfl rfl
 ·
  intro r' hq
  subst hq
  exact ap h
 rintro ⟨⟩ rfl
 refine aj ⟨tab [(4, vb true)], ac [], 0⟩ ?_ ?_
 ·
  refine q1 _ ?_
  exact nR []
 have hh := ap h
 subst hh
 refine aU ?_
 show FQ _ _ _ _
 exact bk (.inr rfl) (bp (v := vb true) rfl rfl) (RV.d trivial)
theorem yO {a0 : dJ} {r : Int} (h : la a0 = some r) : PCall Try.prog 56 [ja a0] (.int .i64 r) := by
 refine PCall.introN xI (show 1 ≤ 102 by decide) ?_
 refine be (s0 := ⟨tab [(0, .d (ja a0))], ac [], 0⟩) (nr []) ?_
 refine aj ⟨tab [(1, dT a0)], ac [], 0⟩ ?_ ?_
 ·
  iterate 2 refine q1 _ ?_
  exact nR []
 refine aG ?_
 obtain ⟨y7, hv, h⟩ := ax h
 refine aj ⟨tab [(1, dT a0), (32, vb y7)], ac [], 0⟩ ?_ ?_
 ·
  iterate 2 refine q1 _ ?_
  refine step (v := vi (a0.Init.length : Int)) (bE (xs := a0.Init) (e := (D.int .u16)) rfl) ?_
  iterate 2 refine q1 _ ?_
  by_cases hg1 : decide ((a0.Init.length : Int) < 1) = true
  ·
   replace hv := aK hg1 hv
   iterate 4 refine qX (decide ((a0.Init.length : Int) < 1)) (by rw [hg1]; decide) ?_
   refine step (v := vb true) (aO (b := decide ((a0.Init.length : Int) < 1)) rfl hg1 rfl) ?_
   refine q1 _ ?_
   iterate 4 refine qX true (by decide) ?_
   refine step (v := vb true) (aO (b := true) rfl rfl rfl) ?_
   refine q1 _ ?_
   iterate 4 refine qX true (by decide) ?_
   refine step (v := vb true) (aO (b := true) rfl rfl rfl) ?_
   refine q1 _ ?_
   iterate 4 refine qX true (by decide) ?_
   refine step (v := vb true) (aO (b := true) rfl rfl rfl) ?_
   have hh := ap hv
   subst hh
   exact nR []
  ·
   replace hv := aL hg1 hv
   refine qG (decide ((a0.Init.length : Int) < 1)) (Bool.eq_false_iff.2 hg1) ?_
   refine q1 _ ?_
   refine qG (decide ((a0.Init.length : Int) < 1)) (Bool.eq_false_iff.2 hg1) ?_
   refine q1 _ ?_
   refine qG (decide ((a0.Init.length : Int) < 1)) (Bool.eq_false_iff.2 hg1) ?_
   refine step (v := vi (a0.Init.length : Int)) (bE (xs := a0.Init) (e := (D.int .u16)) rfl) ?_
   refine qG (decide ((a0.Init.length : Int) < 1)) (Bool.eq_false_iff.2 hg1) ?_
   refine q1 _ ?_
   refine step (v := vb (decide ((a0.Init.length : Int) > 4))) (aS (b := decide ((a0.Init.length : Int) < 1)) rfl hg1 rfl) ?_
   refine q1 _ ?_
   by_cases hg2 : decide ((a0.Init.length : Int) > 4) = true
   ·
    replace hv := aK hg2 hv
    iterate 4 refine qX (decide ((a0.Init.length : Int) > 4)) (by rw [hg2]; decide) ?_
    refine step (v := vb true) (aO (b := decide ((a0.Init.length : Int) > 4)) rfl hg2 rfl) ?_
    refine q1 _ ?_
    iterate 4 refine qX true (by decide) ?_
    refine step (v := vb true) (aO (b := true) rfl rfl rfl) ?_
    refine q1 _ ?_
    iterate 4 refine qX true (by decide) ?_
    refine step (v := vb true) (aO (b := true) rfl rfl rfl) ?_
    have hh := ap hv
    subst hh
    exact nR []
   ·
    replace hv := aL hg2 hv
    obtain ⟨r3, hr3, hv⟩ := ax hv
    refine qG (decide ((a0.Init.length : Int) > 4)) (Bool.eq_false_iff.2 hg2) ?_
    refine q1 _ ?_
    refine qG (decide ((a0.Init.length : Int) > 4)) (Bool.eq_false_iff.2 hg2) ?_
    refine q1 _ ?_
    refine qG (decide ((a0.Init.length : Int) > 4)) (Bool.eq_false_iff.2 hg2) ?_
    refine bu (r := .int .i64 r3) (aJ aQ.nil') (yH hr3) ?_
    refine qG (decide ((a0.Init.length : Int) > 4)) (Bool.eq_false_iff.2 hg2) ?_
    refine q1 _ ?_
    refine step (v := vb (decide (r3 > 300))) (aS (b := decide ((a0.Init.length : Int) > 4)) rfl hg2 rfl) ?_
    refine q1 _ ?_
    by_cases hg4 : decide (r3 > 300) = true
    ·
     replace hv := aK hg4 hv
     iterate 4 refine qX (decide (r3 > 300)) (by rw [hg4]; decide) ?_
     refine step (v := vb true) (aO (b := decide (r3 > 300)) rfl hg4 rfl) ?_
     refine q1 _ ?_
     iterate 4 refine qX true (by decide) ?_
     refine step (v := vb true) (aO (b := true) rfl rfl rfl) ?_
     have hh := ap hv
     subst hh
     exact nR []
    ·
     replace hv := aL hg4 hv
     obtain ⟨r5, hr5, hv⟩ := ax hv
     refine qG (decide (r3 > 300)) (Bool.eq_false_iff.2 hg4) ?_
     refine q1 _ ?_
     refine qG (decide (r3 > 300)) (Bool.eq_false_iff.2 hg4) ?_
     refine q1 _ ?_
     refine qG (decide (r3 > 300)) (Bool.eq_false_iff.2 hg4) ?_
     refine bu (r := .int .i64 r5) (aJ aQ.nil') (yJ hr5) ?_
     refine qG (decide (r3 > 300)) (Bool.eq_false_iff.2 hg4) ?_
     refine q1 _ ?_
     refine step (v := vb (decide (r5 > 20))) (aS (b := decide (r3 > 300)) rfl hg4 rfl) ?_
     refine q1 _ ?_
     by_cases hg6 : decide (r5 > 20) = true
     ·
      replace hv := aK hg6 hv
      iterate 4 refine qX (decide (r5 > 20)) (by rw [hg6]; decide) ?_
      refine step (v := vb true) (aO (b := decide (r5 > 20)) rfl hg6 rfl) ?_
      have hh := ap hv
      subst hh
      exact nR []
     ·
      replace hv := aL hg6 hv
      refine qG (decide (r5 > 20)) (Bool.eq_false_iff.2 hg6) ?_
      refine q1 _ ?_
      refine qG (decide (r5 > 20)) (Bool.eq_false_iff.2 hg6) ?_
      refine q1 _ ?_
      refine qG (decide (r5 > 20)) (Bool.eq_false_iff.2 hg6) ?_
      refine step (v := vi (a0.Rules.length : Int)) (bE (xs := a0.Rules) (e := fz) rfl) ?_
      refine qG (decide (r5 > 20)) (Bool.eq_false_iff.2 hg6) ?_
      refine q1 _ ?_
      refine step (v := vb (decide ((a0.Rules.length : Int) > 24))) (aS (b := decide (r5 > 20)) rfl hg6 rfl) ?_
      have hh := ap hv
      subst hh
      exact nR []
 by_cases hc9 : y7 = true
 ·
  replace h := aK hc9 h
  refine aW (t := y7) rfl hc9 ?_
  refine aj ⟨tab [(2, vi 2)], ac [], 0⟩ ?_ ?_
  ·
   refine q1 _ ?_
   exact nR []
  have hh := ap h
  subst hh
  refine aU ?_
  show FQ _ _ _ _
  exact bk (.inr rfl) (bp (v := vi 2) rfl rfl) (RV.d trivial)
 ·
  replace h := aL hc9 h
  refine aT (t := y7) rfl hc9 ?_
  refine bo ?_
  refine aG ?_
  obtain ⟨r10, hr10, h⟩ := ax h
  refine aj ⟨tab [(1, dT a0), (39, vb (!r10))], ac [], 0⟩ ?_ ?_
  ·
   iterate 4 refine q1 _ ?_
   refine step (v := vi (a0.Init.length : Int)) (bE (xs := a0.Init) (e := (D.int .u16)) rfl) ?_
   refine bu (r := .bool r10) (aJ (aJ aQ.nil')) (yN hr10) ?_
   refine q1 _ ?_
   exact nR []
  by_cases hc11 : (!r10) = true
  ·
   replace h := aK hc11 h
   refine aW (t := (!r10)) rfl hc11 ?_
   refine aj ⟨tab [(2, vi 11)], ac [], 0⟩ ?_ ?_
   ·
    refine q1 _ ?_
    exact nR []
   have hh := ap h
   subst hh
   refine aU ?_
   show FQ _ _ _ _
   exact bk (.inr rfl) (bp (v := vi 11) rfl rfl) (RV.d trivial)
  ·
   replace h := aL hc11 h
   refine aT (t := (!r10)) rfl hc11 ?_
   refine bo ?_
   refine aG ?_
   refine aj ⟨tab [(1, dT a0), (3, vi 0)], ac [], 0⟩ ?_ ?_
   ·
    refine q1 _ ?_
    exact nR []
   obtain ⟨q33, hl, h⟩ := ax h
   refine bJ ?_
   refine ew (cQ (a0.Rules.length : Int)) (fun (i12 : Int) (qq : Unit) => ⟨tab [(1, dT a0), (3, vi i12)], ac [], 0⟩) 0 (fun (qq : Unit) => ⟨tab [], ac [], 0⟩) bK cR (r := r) hl (by unfold bK; omega) ?_ ?_ ?_ ?_
   ·
    rintro i12 ⟨⟩ xr17 hinv15 hgo14 h
    show aI _ _ _ _ _ ⟨tab [(1, dT a0), (3, vi i12)], ac [], 0⟩
    have hc16 : decide (i12 < (a0.Rules.length : Int)) = true := decide_eq_true hgo14
    refine aG ?_
    refine aj ⟨tab [(1, dT a0), (3, vi i12), (43, vi (a0.Rules.length : Int)), (44, vb (decide (i12 < (a0.Rules.length : Int))))], ac [], 0⟩ ?_ ?_
    ·
     iterate 3 refine q1 _ ?_
     refine step (v := vi (a0.Rules.length : Int)) (bE (xs := a0.Rules) (e := fz) rfl) ?_
     refine q1 _ ?_
     exact nR []
    refine cY 43 rfl fun hB13 => ?_
    refine aW (t := decide (i12 < (a0.Rules.length : Int))) rfl hc16 ?_
    refine bo ?_
    refine aG ?_
    refine bJ ?_
    obtain ⟨x18, hx18, h⟩ := ax h
    refine aj ⟨tab [(1, dT a0), (3, vi i12), (4, .ptr 0 0 0)], ac [(0, .var [bC x18.When, bC x18.Guard, bC x18.Then])], 1⟩ ?_ ?_
    ·
     iterate 3 refine q1 _ ?_
     refine step (v := .d (.cptr (some 3) (fz x18) 0)) (de (xs := a0.Rules) (e := fz) hx18 rfl rfl) ?_
     refine q1 _ ?_
     refine step (v := .ptr 0 0 0) (σ' := (ak (ac []) 0 (some (.var [bC [], bC [], bC []])))) (n' := 1) rfl ?_
     refine step (v := V.undef) (σ' := (ak (ak (ac []) 0 (some (.var [bC [], bC [], bC []]))) 0 (some (.var [bC x18.When, bC x18.Guard, bC x18.Then])))) (n' := 1) rfl ?_
     exact nR [0]
    obtain ⟨y30, hv, h⟩ := ax h
    refine aj ⟨tab [(1, dT a0), (3, vi i12), (101, vb y30)], ac [], 0⟩ ?_ ?_
    ·
     iterate 2 refine q1 _ ?_
     refine step (v := vi (x18.When.length : Int)) (bE (xs := x18.When) (e := cI) rfl) ?_
     iterate 2 refine q1 _ ?_
     by_cases hg19 : decide ((x18.When.length : Int) < 2) = true
     ·
      replace hv := aK hg19 hv
      iterate 6 refine qX (decide ((x18.When.length : Int) < 2)) (by rw [hg19]; decide) ?_
      refine step (v := vb true) (aO (b := decide ((x18.When.length : Int) < 2)) rfl hg19 rfl) ?_
      refine q1 _ ?_
      iterate 6 refine qX true (by decide) ?_
      refine step (v := vb true) (aO (b := true) rfl rfl rfl) ?_
      refine q1 _ ?_
      iterate 4 refine qX true (by decide) ?_
      refine step (v := vb true) (aO (b := true) rfl rfl rfl) ?_
      refine q1 _ ?_
      iterate 7 refine qX true (by decide) ?_
      refine step (v := vb true) (aO (b := true) rfl rfl rfl) ?_
      refine q1 _ ?_
      iterate 7 refine qX true (by decide) ?_
      refine step (v := vb true) (aO (b := true) rfl rfl rfl) ?_
      refine q1 _ ?_
      iterate 4 refine qX true (by decide) ?_
      refine step (v := vb true) (aO (b := true) rfl rfl rfl) ?_
      have hh := ap hv
      subst hh
      exact nR []
     ·
      replace hv := aL hg19 hv
      obtain ⟨x20, hx20, hv⟩ := ax hv
      refine qG (decide ((x18.When.length : Int) < 2)) (Bool.eq_false_iff.2 hg19) ?_
      refine q1 _ ?_
      refine qG (decide ((x18.When.length : Int) < 2)) (Bool.eq_false_iff.2 hg19) ?_
      refine q1 _ ?_
      refine qG (decide ((x18.When.length : Int) < 2)) (Bool.eq_false_iff.2 hg19) ?_
      refine step (v := fS x20) (de (xs := x18.When) (e := cI) hx20 rfl rfl) ?_
      refine qG (decide ((x18.When.length : Int) < 2)) (Bool.eq_false_iff.2 hg19) ?_
      refine q1 _ ?_
      refine qG (decide ((x18.When.length : Int) < 2)) (Bool.eq_false_iff.2 hg19) ?_
      refine q1 _ ?_
      refine qG (decide ((x18.When.length : Int) < 2)) (Bool.eq_false_iff.2 hg19) ?_
      refine q1 _ ?_
      refine step (v := vb (x20.F != 0)) (aS (b := decide ((x18.When.length : Int) < 2)) rfl hg19 rfl) ?_
      refine q1 _ ?_
      by_cases hg21 : (x20.F != 0) = true
      ·
       replace hv := aK hg21 hv
       iterate 6 refine qX (x20.F != 0) (by rw [hg21]; decide) ?_
       refine step (v := vb true) (aO (b := (x20.F != 0)) rfl hg21 rfl) ?_
       refine q1 _ ?_
       iterate 4 refine qX true (by decide) ?_
       refine step (v := vb true) (aO (b := true) rfl rfl rfl) ?_
       refine q1 _ ?_
       iterate 7 refine qX true (by decide) ?_
       refine step (v := vb true) (aO (b := true) rfl rfl rfl) ?_
       refine q1 _ ?_
       iterate 7 refine qX true (by decide) ?_
       refine step (v := vb true) (aO (b := true) rfl rfl rfl) ?_
       refine q1 _ ?_
       iterate 4 refine qX true (by decide) ?_
       refine step (v := vb true) (aO (b := true) rfl rfl rfl) ?_
       have hh := ap hv
       subst hh
       exact nR []
      ·
       replace hv := aL hg21 hv
       obtain ⟨x22, hx22, hv⟩ := ax hv
       refine qG (x20.F != 0) (Bool.eq_false_iff.2 hg21) ?_
       refine q1 _ ?_
       refine qG (x20.F != 0) (Bool.eq_false_iff.2 hg21) ?_
       refine q1 _ ?_
       refine qG (x20.F != 0) (Bool.eq_false_iff.2 hg21) ?_
       refine step (v := fS x22) (de (xs := x18.When) (e := cI) hx22 rfl rfl) ?_
       refine qG (x20.F != 0) (Bool.eq_false_iff.2 hg21) ?_
       refine q1 _ ?_
       refine qG (x20.F != 0) (Bool.eq_false_iff.2 hg21) ?_
       refine q1 _ ?_
       refine qG (x20.F != 0) (Bool.eq_false_iff.2 hg21) ?_
       refine q1 _ ?_
       refine step (v := vb (x22.F != 1)) (aS (b := (x20.F != 0)) rfl hg21 rfl) ?_
       refine q1 _ ?_
       by_cases hg23 : (x22.F != 1) = true
       ·
        replace hv := aK hg23 hv
        iterate 4 refine qX (x22.F != 1) (by rw [hg23]; decide) ?_
        refine step (v := vb true) (aO (b := (x22.F != 1)) rfl hg23 rfl) ?_
        refine q1 _ ?_
        iterate 7 refine qX true (by decide) ?_
        refine step (v := vb true) (aO (b := true) rfl rfl rfl) ?_
        refine q1 _ ?_
        iterate 7 refine qX true (by decide) ?_
        refine step (v := vb true) (aO (b := true) rfl rfl rfl) ?_
        refine q1 _ ?_
        iterate 4 refine qX true (by decide) ?_
        refine step (v := vb true) (aO (b := true) rfl rfl rfl) ?_
        have hh := ap hv
        subst hh
        exact nR []
       ·
        replace hv := aL hg23 hv
        obtain ⟨r24, hr24, hv⟩ := ax hv
        refine qG (x22.F != 1) (Bool.eq_false_iff.2 hg23) ?_
        refine q1 _ ?_
        refine qG (x22.F != 1) (Bool.eq_false_iff.2 hg23) ?_
        refine q1 _ ?_
        refine qG (x22.F != 1) (Bool.eq_false_iff.2 hg23) ?_
        refine bu (r := .bool r24) (aJ (aJ aQ.nil')) (nZ hr24) ?_
        refine qG (x22.F != 1) (Bool.eq_false_iff.2 hg23) ?_
        refine q1 _ ?_
        refine step (v := vb (!r24)) (aS (b := (x22.F != 1)) rfl hg23 rfl) ?_
        refine q1 _ ?_
        by_cases hg25 : (!r24) = true
        ·
         replace hv := aK hg25 hv
         iterate 7 refine qX (!r24) (by rw [hg25]; decide) ?_
         refine step (v := vb true) (aO (b := (!r24)) rfl hg25 rfl) ?_
         refine q1 _ ?_
         iterate 7 refine qX true (by decide) ?_
         refine step (v := vb true) (aO (b := true) rfl rfl rfl) ?_
         refine q1 _ ?_
         iterate 4 refine qX true (by decide) ?_
         refine step (v := vb true) (aO (b := true) rfl rfl rfl) ?_
         have hh := ap hv
         subst hh
         exact nR []
        ·
         replace hv := aL hg25 hv
         obtain ⟨r26, hr26, hv⟩ := ax hv
         refine qG (!r24) (Bool.eq_false_iff.2 hg25) ?_
         refine q1 _ ?_
         refine qG (!r24) (Bool.eq_false_iff.2 hg25) ?_
         refine q1 _ ?_
         refine qG (!r24) (Bool.eq_false_iff.2 hg25) ?_
         refine q1 _ ?_
         refine qG (!r24) (Bool.eq_false_iff.2 hg25) ?_
         refine q1 _ ?_
         refine qG (!r24) (Bool.eq_false_iff.2 hg25) ?_
         refine step (v := vi (a0.Init.length : Int)) (bE (xs := a0.Init) (e := (D.int .u16)) rfl) ?_
         refine qG (!r24) (Bool.eq_false_iff.2 hg25) ?_
         refine bu (r := .bool r26) (aJ (aJ aQ.nil')) (nZ hr26) ?_
         refine qG (!r24) (Bool.eq_false_iff.2 hg25) ?_
         refine q1 _ ?_
         refine step (v := vb (!r26)) (aS (b := (!r24)) rfl hg25 rfl) ?_
         refine q1 _ ?_
         by_cases hg27 : (!r26) = true
         ·
          replace hv := aK hg27 hv
          iterate 7 refine qX (!r26) (by rw [hg27]; decide) ?_
          refine step (v := vb true) (aO (b := (!r26)) rfl hg27 rfl) ?_
          refine q1 _ ?_
          iterate 4 refine qX true (by decide) ?_
          refine step (v := vb true) (aO (b := true) rfl rfl rfl) ?_
          have hh := ap hv
          subst hh
          exact nR []
         ·
          replace hv := aL hg27 hv
          obtain ⟨r28, hr28, hv⟩ := ax hv
          refine qG (!r26) (Bool.eq_false_iff.2 hg27) ?_
          refine q1 _ ?_
          refine qG (!r26) (Bool.eq_false_iff.2 hg27) ?_
          refine q1 _ ?_
          refine qG (!r26) (Bool.eq_false_iff.2 hg27) ?_
          refine q1 _ ?_
          refine qG (!r26) (Bool.eq_false_iff.2 hg27) ?_
          refine q1 _ ?_
          refine qG (!r26) (Bool.eq_false_iff.2 hg27) ?_
          refine step (v := vi (a0.Init.length : Int)) (bE (xs := a0.Init) (e := (D.int .u16)) rfl) ?_
          refine qG (!r26) (Bool.eq_false_iff.2 hg27) ?_
          refine bu (r := .bool r28) (aJ (aJ aQ.nil')) (nZ hr28) ?_
          refine qG (!r26) (Bool.eq_false_iff.2 hg27) ?_
          refine q1 _ ?_
          refine step (v := vb (!r28)) (aS (b := (!r26)) rfl hg27 rfl) ?_
          refine q1 _ ?_
          by_cases hg29 : (!r28) = true
          ·
           replace hv := aK hg29 hv
           iterate 4 refine qX (!r28) (by rw [hg29]; decide) ?_
           refine step (v := vb true) (aO (b := (!r28)) rfl hg29 rfl) ?_
           have hh := ap hv
           subst hh
           exact nR []
          ·
           replace hv := aL hg29 hv
           refine qG (!r28) (Bool.eq_false_iff.2 hg29) ?_
           refine q1 _ ?_
           refine qG (!r28) (Bool.eq_false_iff.2 hg29) ?_
           refine q1 _ ?_
           refine qG (!r28) (Bool.eq_false_iff.2 hg29) ?_
           refine step (v := vi (x18.Then.length : Int)) (bE (xs := x18.Then) (e := cI) rfl) ?_
           refine qG (!r28) (Bool.eq_false_iff.2 hg29) ?_
           refine q1 _ ?_
           refine step (v := vb ((x18.Then.length : Int) == 0)) (aS (b := (!r28)) rfl hg29 rfl) ?_
           have hh := ap hv
           subst hh
           exact nR []
    by_cases hc32 : y30 = true
    ·
     replace h := aK hc32 h
     refine aW (t := y30) rfl hc32 ?_
     refine aj ⟨tab [(2, vi 11)], ac [], 0⟩ ?_ ?_
     ·
      refine q1 _ ?_
      exact nR []
     obtain ⟨r33, kr33, hr⟩ := c8 (o := some 11) (g := Br.ret) h
     subst hr
     have h := kr33
     have hh := ap h
     subst hh
     refine aU ?_
     refine And.intro (fun hn => nomatch hn) ?_
     intro hq
     have hq := hq.symm
     subst hq
     show FQ _ _ _ _
     exact bk (.inr rfl) (bp (v := vi 11) rfl rfl) (RV.d trivial)
    ·
     replace h := aL hc32 h
     refine aT (t := y30) rfl hc32 ?_
     refine bo ?_
     have hh := ap h
     subst hh
     refine bO ⟨tab [(1, dT a0), (3, vi (i12 + 1))], ac [], 0⟩ ?_ ?_
     ·
      refine q1 _ ?_
      refine step (v := vi (i12 + 1)) (cS (cT hinv15 hgo14 hB13) rfl rfl) ?_
      refine q1 _ ?_
      exact nR []
     exact And.intro rfl rfl
   ·
    rintro i12 ⟨⟩ hinv15 hgo14
    show aI _ _ _ _ _ ⟨tab [(1, dT a0), (3, vi i12)], ac [], 0⟩
    have hc16 : ¬ (decide (i12 < (a0.Rules.length : Int)) = true) := fun hq => hgo14 (of_decide_eq_true hq)
    refine aG ?_
    refine aj ⟨tab [(1, dT a0), (3, vi i12), (44, vb (decide (i12 < (a0.Rules.length : Int))))], ac [], 0⟩ ?_ ?_
    ·
     iterate 3 refine q1 _ ?_
     refine step (v := vi (a0.Rules.length : Int)) (bE (xs := a0.Rules) (e := fz) rfl) ?_
     refine q1 _ ?_
     exact nR []
    refine aT (t := decide (i12 < (a0.Rules.length : Int))) rfl hc16 ?_
    refine be (s0 := ⟨tab [], ac [], 0⟩) (nr []) ?_
    refine cN ?_
    exact And.intro rfl rfl
   ·
    intro r' hq
    subst hq
    exact ap h
   rintro ⟨⟩ rfl
   refine aj ⟨tab [(2, vi 0)], ac [], 0⟩ ?_ ?_
   ·
    refine q1 _ ?_
    exact nR []
   have hh := ap h
   subst hh
   refine aU ?_
   show FQ _ _ _ _
   exact bk (.inr rfl) (bp (v := vi 0) rfl rfl) (RV.d trivial)
theorem yP {a0 : ah} {r : Bool} (h : lb a0 = some r) : PCall Try.prog 27 [a8 a0] (.bool r) := by
 refine PCall.introN xK (show 1 ≤ 8 by decide) ?_
 refine be (s0 := ⟨tab [(0, vs1 a0)], ac [], 0⟩) (nr []) ?_
 refine aj ⟨tab [(1, aD a0)], ac [], 0⟩ ?_ ?_
 ·
  iterate 2 refine q1 _ ?_
  exact nR []
 obtain ⟨l1, hl1, h⟩ := ax h
 obtain ⟨r2, hr2, h⟩ := ax h
 refine aj ⟨tab [(2, vb (r2 == 0))], ac [], 0⟩ ?_ ?_
 ·
  refine step (v := .loc 0 0 l1.length) (σ' := (ak (ac []) 0 (some (.lst false none (List.map (D.int .u16) l1))))) (n' := 1) (mx (e := (D.int .u16)) (z := 0) hl1 rfl rfl (my hl1)) ?_
  iterate 2 refine q1 _ ?_
  refine bu (r := .int .i64 r2) (ms (kE (cJ (jE (xs := l1) (e := (D.int .u16)) rfl rfl) (cJ dA (cJ dA (cJ dA (cJ dA (cJ dA jD))))))) (cF.aggs (by exact ⟨.refl _, .refl _, .refl _, .refl _, .refl _, .refl _, trivial⟩)) aQ.nil') (yO hr2) ?_
  iterate 2 refine q1 _ ?_
  exact nR []
 have hh := ap h
 subst hh
 refine aU ?_
 show FQ _ _ _ _
 exact bk (.inr rfl) (bp (v := vb (r2 == 0)) rfl rfl) (RV.d trivial)
theorem yQ {a0 : (List (A8 Int))} {a1 : (List (A8 Int))} {r : Bool} (h : lf a0 a1 = some r) : PCall Try.prog 16 [eL (some 8) (eA8 (D.int .u16)) a0, eL (some 8) (eA8 (D.int .u16)) a1] (.bool r) := by
 refine PCall.introN xN (show 2 ≤ 26 by decide) ?_
 refine be (s0 := ⟨tab [(0, .d (eL (some 8) (eA8 (D.int .u16)) a0)), (1, .d (eL (some 8) (eA8 (D.int .u16)) a1))], ac [], 0⟩) (nr []) ?_
 refine aj ⟨tab [(0, .d (eL (some 8) (eA8 (D.int .u16)) a0)), (1, .d (eL (some 8) (eA8 (D.int .u16)) a1))], ac [], 0⟩ ?_ ?_
 ·
  refine q1 _ ?_
  exact nR []
 refine aG ?_
 refine aj ⟨tab [(0, .d (eL (some 8) (eA8 (D.int .u16)) a0)), (1, .d (eL (some 8) (eA8 (D.int .u16)) a1)), (10, vb ((a0.length : Int) != (a1.length : Int)))], ac [], 0⟩ ?_ ?_
 ·
  refine q1 _ ?_
  refine step (v := vi (a0.length : Int)) (bE (xs := a0) (e := (eA8 (D.int .u16))) rfl) ?_
  refine q1 _ ?_
  refine step (v := vi (a1.length : Int)) (bE (xs := a1) (e := (eA8 (D.int .u16))) rfl) ?_
  refine q1 _ ?_
  exact nR []
 by_cases hc1 : ((a0.length : Int) != (a1.length : Int)) = true
 ·
  replace h := aK hc1 h
  refine aW (t := ((a0.length : Int) != (a1.length : Int))) rfl hc1 ?_
  refine aj ⟨tab [(4, vb false)], ac [], 0⟩ ?_ ?_
  ·
   refine q1 _ ?_
   exact nR []
  have hh := ap h
  subst hh
  refine aU ?_
  show FQ _ _ _ _
  exact bk (.inr rfl) (bp (v := vb false) rfl rfl) (RV.d trivial)
 ·
  replace h := aL hc1 h
  refine aT (t := ((a0.length : Int) != (a1.length : Int))) rfl hc1 ?_
  refine bo ?_
  refine aG ?_
  refine aj ⟨tab [(0, .d (eL (some 8) (eA8 (D.int .u16)) a0)), (1, .d (eL (some 8) (eA8 (D.int .u16)) a1)), (5, vi 0)], ac [], 0⟩ ?_ ?_
  ·
   refine q1 _ ?_
   exact nR []
  obtain ⟨q11, hl, h⟩ := ax h
  refine bJ ?_
  refine ew (cQ (a0.length : Int)) (fun (i2 : Int) (qq : Unit) => ⟨tab [(0, .d (eL (some 8) (eA8 (D.int .u16)) a0)), (1, .d (eL (some 8) (eA8 (D.int .u16)) a1)), (5, vi i2)], ac [], 0⟩) 0 (fun (qq : Unit) => ⟨tab [], ac [], 0⟩) bK cR (r := r) hl (by unfold bK; omega) ?_ ?_ ?_ ?_
  ·
   rintro i2 ⟨⟩ xr7 hinv5 hgo4 h
   show aI _ _ _ _ _ ⟨tab [(0, .d (eL (some 8) (eA8 (D.int .u16)) a0)), (1, .d (eL (some 8) (eA8 (D.int .u16)) a1)), (5, vi i2)], ac [], 0⟩
   have hc6 : decide (i2 < (a0.length : Int)) = true := decide_eq_true hgo4
   refine aG ?_
   refine aj ⟨tab [(0, .d (eL (some 8) (eA8 (D.int .u16)) a0)), (1, .d (eL (some 8) (eA8 (D.int .u16)) a1)), (5, vi i2), (13, vi (a0.length : Int)), (14, vb (decide (i2 < (a0.length : Int))))], ac [], 0⟩ ?_ ?_
   ·
    iterate 2 refine q1 _ ?_
    refine step (v := vi (a0.length : Int)) (bE (xs := a0) (e := (eA8 (D.int .u16))) rfl) ?_
    refine q1 _ ?_
    exact nR []
   refine cY 13 rfl fun hB3 => ?_
   refine aW (t := decide (i2 < (a0.length : Int))) rfl hc6 ?_
   refine bo ?_
   refine aG ?_
   refine bJ ?_
   obtain ⟨x8, hx8, h⟩ := ax h
   obtain ⟨x9, hx9, h⟩ := ax h
   refine aj ⟨tab [(0, .d (eL (some 8) (eA8 (D.int .u16)) a0)), (1, .d (eL (some 8) (eA8 (D.int .u16)) a1)), (5, vi i2), (25, vb (!(x8 == x9)))], ac [], 0⟩ ?_ ?_
   ·
    iterate 2 refine q1 _ ?_
    refine step (v := .d (.cptr (some 8) (eA8 (D.int .u16) x8) 0)) (de (xs := a0) (e := (eA8 (D.int .u16))) hx8 rfl rfl) ?_
    iterate 3 refine q1 _ ?_
    refine step (v := .d (.cptr (some 8) (eA8 (D.int .u16) x9) 0)) (de (xs := a1) (e := (eA8 (D.int .u16))) hx9 rfl rfl) ?_
    refine q1 _ ?_
    refine step (v := vb (!(x8 == x9))) (kC (neg := true) rfl rfl (lF x8 x9)) ?_
    exact nR []
   by_cases hc10 : (!(x8 == x9)) = true
   ·
    replace h := aK hc10 h
    refine aW (t := (!(x8 == x9))) rfl hc10 ?_
    refine aj ⟨tab [(4, vb false)], ac [], 0⟩ ?_ ?_
    ·
     refine q1 _ ?_
     exact nR []
    obtain ⟨r11, kr11, hr⟩ := c8 (o := some false) (g := Br.ret) h
    subst hr
    have h := kr11
    have hh := ap h
    subst hh
    refine aU ?_
    refine And.intro (fun hn => nomatch hn) ?_
    intro hq
    have hq := hq.symm
    subst hq
    show FQ _ _ _ _
    exact bk (.inr rfl) (bp (v := vb false) rfl rfl) (RV.d trivial)
   ·
    replace h := aL hc10 h
    refine aT (t := (!(x8 == x9))) rfl hc10 ?_
    refine bo ?_
    have hh := ap h
    subst hh
    refine bO ⟨tab [(0, .d (eL (some 8) (eA8 (D.int .u16)) a0)), (1, .d (eL (some 8) (eA8 (D.int .u16)) a1)), (5, vi (i2 + 1))], ac [], 0⟩ ?_ ?_
    ·
     refine q1 _ ?_
     refine step (v := vi (i2 + 1)) (cS (cT hinv5 hgo4 hB3) rfl rfl) ?_
     refine q1 _ ?_
     exact nR []
    exact And.intro rfl rfl
  ·
   rintro i2 ⟨⟩ hinv5 hgo4
   show aI _ _ _ _ _ ⟨tab [(0, .d (eL (some 8) (eA8 (D.int .u16)) a0)), (1, .d (eL (some 8) (eA8 (D.int .u16)) a1)), (5, vi i2)], ac [], 0⟩
   have hc6 : ¬ (decide (i2 < (a0.length : Int)) = true) := fun hq => hgo4 (of_decide_eq_true hq)
   refine aG ?_
   refine aj ⟨tab [(0, .d (eL (some 8) (eA8 (D.int .u16)) a0)), (1, .d (eL (some 8) (eA8 (D.int .u16)) a1)), (5, vi i2), (14, vb (decide (i2 < (a0.length : Int))))], ac [], 0⟩ ?_ ?_
   ·
    iterate 2 refine q1 _ ?_
    refine step (v := vi (a0.length : Int)) (bE (xs := a0) (e := (eA8 (D.int .u16))) rfl) ?_
    refine q1 _ ?_
    exact nR []
   refine aT (t := decide (i2 < (a0.length : Int))) rfl hc6 ?_
   refine be (s0 := ⟨tab [], ac [], 0⟩) (nr []) ?_
   refine cN ?_
   exact And.intro rfl rfl
  ·
   intro r' hq
   subst hq
   exact ap h
  rintro ⟨⟩ rfl
  refine aj ⟨tab [(4, vb true)], ac [], 0⟩ ?_ ?_
  ·
   refine q1 _ ?_
   exact nR []
  have hh := ap h
  subst hh
  refine aU ?_
  show FQ _ _ _ _
  exact bk (.inr rfl) (bp (v := vb true) rfl rfl) (RV.d trivial)
theorem yR {a0 : List ah} {r : List ah} (h : jO a0 = some r) : bZ Try.prog 55 [.d (.vec (some 4) (List.map aq a0))] (ac []) 0 (.loc 0 0 r.length) (ac [(0, .lst true (some 4) (List.map aq r))]) 1 := by
 cases a0 with
 | nil =>
  refine bZ.empty ?_ ?_
  ·
   have h : some ([] : List ah) = some r := by simpa [jO, cB] using h
   refine bZ.introN (bl := []) (bl' := [(0, .lst true (some 4) (List.map aq r))]) nV (show 1 ≤ 8 by decide) rfl ?_
   refine be (s0 := ⟨tab [(0, .d (.nils))], ac [], 0⟩) (nr []) ?_
   refine aj ⟨tab [(0, .d (.nils))], ac [], 0⟩ ?_ ?_
   ·
    refine q1 _ ?_
    exact nR []
   refine aG ?_
   refine aj ⟨tab [(0, .d (.nils)), (4, vb true)], ac [], 0⟩ ?_ ?_
   ·
    iterate 2 refine q1 _ ?_
    exact nR []
   refine aW (t := true) rfl rfl ?_
   refine aj ⟨tab [(2, .d (.nils))], ac [], 0⟩ ?_ ?_
   ·
    refine q1 _ ?_
    exact nR []
   have hh := ap h
   subst hh
   refine be (s0 := ⟨tab [(2, .loc 0 0 (([] : List ah).length))], ac [(0, .lst true (some 4) (List.map aq ([] : List ah)))], 1⟩) (bS.trans (s2 := ⟨tab [(2, .loc 0 0 (([] : List ah).length))], ac [(0, .lst true (some 4) (List.map aq ([] : List ah)))], 1⟩) (iI 2 true (some 4) rfl) (nr [0])) ?_
   refine aU ?_
   exact ⟨.inr rfl, _, rfl, rfl, dH.sub ⟨rfl, trivial⟩, rfl⟩
  ·
   refine bZ.introN (bl := []) (bl' := [(0, .lst true (some 4) (List.map aq r))]) nV (show 1 ≤ 8 by decide) rfl ?_
   refine be (s0 := ⟨tab [(0, .mapr 0)], ac [], 0⟩) (nm [] ⟨.mp _, trivial⟩ trivial) ?_
   refine aj ⟨tab [(0, .mapr 0)], ac [], 0⟩ ?_ ?_
   ·
    refine q1 _ ?_
    exact aM.nil' (nm [] ⟨.mp _, trivial⟩ trivial)
   refine aG ?_
   refine aj ⟨tab [(0, aV ([] : List ah)), (4, vb false)], ac [], 0⟩ ?_ ?_
   ·
    iterate 2 refine q1 _ ?_
    exact aM.nil' (nm [] ⟨.nne _ _, .d _, trivial⟩ trivial)
   refine aT (t := false) rfl (by decide) ?_
   refine bo ?_
   obtain ⟨l1, hl1, h⟩ := ax h
   refine aj ⟨tab [(2, .loc 0 0 l1.length)], ac [(0, .lst true (some 4) (List.map aq l1))], 1⟩ ?_ ?_
   ·
    refine step (v := .loc 0 0 (([] : List ah).length)) (σ' := (ak (ac []) 0 (some (.lst true (some 4) (List.map aq ([] : List ah)))))) (n' := 1) rfl ?_
    refine q1 _ ?_
    refine step (v := .loc 1 0 l1.length) (σ' := (ak (ak (ak (ac []) 0 (some (.lst true (some 4) (List.map aq ([] : List ah))))) 0 none) 1 (some (.lst true (some 4) (List.map aq l1))))) (n' := 2) (fj (xs := ([] : List ah)) (ys := ([] : List ah)) (e := aq) hl1 rfl rfl rfl (fH (xs := ([] : List ah)) (e := aq) rfl)) ?_
    refine q1 _ ?_
    exact nR [1]
   have hh := ap h
   subst hh
   refine aU ?_
   exact ⟨.inr rfl, _, rfl, rfl, dH.sub ⟨rfl, trivial⟩, rfl⟩
 | cons x xs =>
  refine bZ.introN (bl := []) (bl' := [(0, .lst true (some 4) (List.map aq r))]) nV (show 1 ≤ 8 by decide) rfl ?_
  refine be (s0 := ⟨tab [(0, aV (x :: xs))], ac [], 0⟩) (nr []) ?_
  refine aj ⟨tab [(0, aV (x :: xs))], ac [], 0⟩ ?_ ?_
  ·
   refine q1 _ ?_
   exact nR []
  refine aG ?_
  refine aj ⟨tab [(0, aV (x :: xs)), (4, vb false)], ac [], 0⟩ ?_ ?_
  ·
   iterate 2 refine q1 _ ?_
   exact nR []
  refine aT (t := false) rfl (by decide) ?_
  refine bo ?_
  obtain ⟨l1, hl1, h⟩ := ax h
  refine aj ⟨tab [(2, .loc 0 0 l1.length)], ac [(0, .lst true (some 4) (List.map aq l1))], 1⟩ ?_ ?_
  ·
   refine step (v := .loc 0 0 (([] : List ah).length)) (σ' := (ak (ac []) 0 (some (.lst true (some 4) (List.map aq ([] : List ah)))))) (n' := 1) rfl ?_
   refine q1 _ ?_
   refine step (v := .loc 1 0 l1.length) (σ' := (ak (ak (ak (ac []) 0 (some (.lst true (some 4) (List.map aq ([] : List ah))))) 0 none) 1 (some (.lst true (some 4) (List.map aq l1))))) (n' := 2) (fj (xs := ([] : List ah)) (ys := (x :: xs)) (e := aq) hl1 rfl rfl rfl (fH (xs := (x :: xs)) (e := aq) rfl)) ?_
   refine q1 _ ?_
   exact nR [1]
  have hh := ap h
  subst hh
  refine aU ?_
  exact ⟨.inr rfl, _, rfl, rfl, dH.sub ⟨rfl, trivial⟩, rfl⟩
theorem yS {self : ah → (List Int) → Option ah} (hself : ∀ (a0 : ah) (a1 : (List Int)) (r : ah), self a0 a1 = some r → PCall Try.prog 24 [a8 a0, eL none (D.int .u16) a1] (a8 r)) {a0 : ah} {a1 : (List Int)} {r : ah} (h : lh self a0 a1 = some r) : PCall Try.prog 24 [a8 a0, eL none (D.int .u16) a1] (a8 r) := by
 refine PCall.introN xR (show 2 ≤ 36 by decide) ?_
 refine be (s0 := ⟨tab [(0, vs1 a0), (1, bn a1)], ac [], 0⟩) (nr []) ?_
 refine aj ⟨tab [(1, bn a1), (2, .ptr 0 0 0), (4, .ptr 1 0 0)], ac [(0, bw a0), (1, aN)], 2⟩ ?_ ?_
 ·
  refine step (v := .ptr 0 0 0) (σ' := (ak (ac []) 0 (some (bw a0)))) (n' := 1) rfl ?_
  refine step (v := .ptr 1 0 0) (σ' := (ak (ak (ac []) 0 (some (bw a0))) 1 (some (aN)))) (n' := 2) rfl ?_
  exact nR [0, 1]
 refine aG ?_
 refine aj ⟨tab [(1, bn a1), (2, .ptr 0 0 0), (4, .ptr 1 0 0), (9, vb (a0.Op == 3))], ac [(0, bw a0), (1, aN)], 2⟩ ?_ ?_
 ·
  iterate 3 refine q1 _ ?_
  exact nR [0, 1]
 by_cases hc1 : (a0.Op == 3) = true
 ·
  replace h := aK hc1 h
  refine aW (t := (a0.Op == 3)) rfl hc1 ?_
  refine aG ?_
  obtain ⟨r2, hr2, h⟩ := ax h
  refine aj ⟨tab [(4, .ptr 0 0 0), (12, vb r2)], ac [(0, aN)], 1⟩ ?_ ?_
  ·
   refine q1 _ ?_
   refine step (v := vs1 a0) (c9 (ds := [.int .i64 a0.Op, .int .i64 a0.F, .int .u16 a0.N, eL (some 4) aq a0.Kids]) rfl rfl (show 4 ≤ 4 by decide) rfl) ?_
   refine bu (r := .bool r2) (aJ (aJ aQ.nil')) (rE hr2) ?_
   exact nR [1]
  by_cases hc3 : r2 = true
  ·
   replace h := aK hc3 h
   refine aW (t := r2) rfl hc3 ?_
   refine aj ⟨tab [(4, .ptr 0 0 0)], ac [(0, .var [vi 1, vi 0, vh 0, aV []])], 1⟩ ?_ ?_
   ·
    refine step (v := vs1 (ah.mk 1 0 0 [])) (dz (ds := [.int .i64 1, .int .i64 0, .int .u16 0, eL (some 4) aq []]) rfl) ?_
    refine step (v := V.undef) (σ' := (ak (ac [(0, aN)]) 0 (some (.var [vi 1, vi 0, vh 0, aV []])))) (n' := 1) rfl ?_
    exact nR [0]
   have hh := ap h
   subst hh
   refine aU ?_
   show FQ _ _ _ _
   exact bk (.inr rfl) (fI (ds := [.int .i64 1, .int .i64 0, .int .u16 0, eL (some 4) aq []]) rfl rfl (show 4 ≤ 4 by decide) rfl rfl) (RV.d trivial)
  ·
   replace h := aL hc3 h
   refine aT (t := r2) rfl hc3 ?_
   refine bo ?_
   refine aj ⟨tab [(4, .ptr 0 0 0)], ac [(0, aN)], 1⟩ ?_ ?_
   ·
    refine step (v := vs1 (ah.mk 0 0 0 [])) (dz (ds := [.int .i64 0, .int .i64 0, .int .u16 0, eL (some 4) aq []]) rfl) ?_
    refine step (v := V.undef) (σ' := (ak (ac [(0, aN)]) 0 (some (aN)))) (n' := 1) rfl ?_
    exact nR [0]
   have hh := ap h
   subst hh
   refine aU ?_
   show FQ _ _ _ _
   exact bk (.inr rfl) (fI (ds := [.int .i64 0, .int .i64 0, .int .u16 0, eL (some 4) aq []]) rfl rfl (show 4 ≤ 4 by decide) rfl rfl) (RV.d trivial)
 ·
  replace h := aL hc1 h
  refine aT (t := (a0.Op == 3)) rfl hc1 ?_
  refine bo ?_
  obtain ⟨r4, hr4, h⟩ := ax h
  refine aj ⟨tab [(1, bn a1), (2, .ptr 0 0 0), (4, .ptr 2 0 0)], ac [(0, .var [vi a0.Op, vi a0.F, vh a0.N, .loc 1 0 r4.length]), (1, .lst true (some 4) (List.map aq r4)), (2, aN)], 3⟩ ?_ ?_
  ·
   iterate 2 refine q1 _ ?_
   refine hM (v := .loc 2 0 r4.length) (σ' := (ak (ac [(0, bw a0), (1, aN)]) 2 (some (.lst true (some 4) (List.map aq r4))))) (n' := 3) (iE [] (yR hr4) (show 0 ≤ 1 by decide) (by decide) (show ∀ i ∈ [], i < 2 by decide) (iJ (show 0 < 1 by decide) iK) (cf.c (.d _) cf.nil0) SN.nil0) (show 2 ≤ 3 by decide) ?_
   refine q1 _ ?_
   refine step (v := V.undef) (σ' := (ak (ak (ac [(0, bw a0), (1, aN)]) 2 (some (.lst true (some 4) (List.map aq r4)))) 0 (some (.var [vi a0.Op, vi a0.F, vh a0.N, .loc 2 0 r4.length])))) (n' := 3) rfl ?_
   exact nR [0, 2, 1]
  refine aG ?_
  refine aj ⟨tab [(1, bn a1), (2, .ptr 0 0 0), (4, .ptr 2 0 0), (20, .loc 1 0 r4.length), (21, vi (r4.length : Int)), (22, vi 0)], ac [(0, .var [vi a0.Op, vi a0.F, vh a0.N, .loc 1 0 r4.length]), (1, .lst true (some 4) (List.map aq r4)), (2, aN)], 3⟩ ?_ ?_
  ·
   iterate 4 refine q1 _ ?_
   exact nR [0, 1, 2]
  obtain ⟨z15, hl, h⟩ := ax h
  refine bJ ?_
  refine gC (cQ (r4.length : Int)) (fun (i6 : Int) (qq : (List ah)) => ⟨tab [(1, bn a1), (2, .ptr 0 0 0), (4, .ptr 2 0 0), (20, .loc 1 0 qq.length), (21, vi (r4.length : Int)), (22, vi i6)], ac [(0, .var [vi a0.Op, vi a0.F, vh a0.N, .loc 1 0 qq.length]), (1, .lst true (some 4) (List.map aq qq)), (2, aN)], 3⟩) 0 (fun (qq : (List ah)) => ⟨tab [(2, .ptr 0 0 0), (4, .ptr 2 0 0)], ac [(0, .var [vi a0.Op, vi a0.F, vh a0.N, .loc 1 0 qq.length]), (1, .lst true (some 4) (List.map aq qq)), (2, aN)], 3⟩) bK cR hl (by unfold bK; omega) ?_ ?_ ?_
  ·
   rintro i6 l5 xr11 hinv9 hgo8 h
   show aI _ _ _ _ _ ⟨tab [(1, bn a1), (2, .ptr 0 0 0), (4, .ptr 2 0 0), (20, .loc 1 0 l5.length), (21, vi (r4.length : Int)), (22, vi i6)], ac [(0, .var [vi a0.Op, vi a0.F, vh a0.N, .loc 1 0 l5.length]), (1, .lst true (some 4) (List.map aq l5)), (2, aN)], 3⟩
   have hc10 : decide (i6 < (r4.length : Int)) = true := decide_eq_true hgo8
   refine aj ⟨tab [(1, bn a1), (2, .ptr 0 0 0), (4, .ptr 2 0 0), (20, .loc 1 0 l5.length), (21, vi (r4.length : Int)), (22, vi i6), (23, vb (decide (i6 < (r4.length : Int))))], ac [(0, .var [vi a0.Op, vi a0.F, vh a0.N, .loc 1 0 l5.length]), (1, .lst true (some 4) (List.map aq l5)), (2, aN)], 3⟩ ?_ ?_
   ·
    refine q1 _ ?_
    exact nR [0, 1, 2]
   refine cY 21 rfl fun hB7 => ?_
   refine aG ?_
   refine aW (t := decide (i6 < (r4.length : Int))) rfl hc10 ?_
   refine bo ?_
   refine aG ?_
   refine bJ ?_
   obtain ⟨x12, hx12, h⟩ := ax h
   refine aj ⟨tab [(1, bn a1), (2, .ptr 0 0 0), (4, .ptr 2 0 0), (5, vi i6), (6, .ptr 3 0 0), (20, .loc 1 0 l5.length), (21, vi (r4.length : Int)), (22, vi i6)], ac [(0, .var [vi a0.Op, vi a0.F, vh a0.N, .loc 1 0 l5.length]), (1, .lst true (some 4) (List.map aq l5)), (2, aN), (3, bw x12)], 4⟩ ?_ ?_
   ·
    refine q1 _ ?_
    refine step (v := .ptr 1 i6.toNat 0) (gD (xs := l5) (e := aq) hx12 rfl rfl rfl rfl) ?_
    refine step (v := vs1 x12) (mw (xs := l5) (e := aq) hx12 rfl rfl (cq _) rfl) ?_
    refine step (v := .ptr 3 0 0) (σ' := (ak (ac [(0, .var [vi a0.Op, vi a0.F, vh a0.N, .loc 1 0 l5.length]), (1, .lst true (some 4) (List.map aq l5)), (2, aN)]) 3 (some (aN)))) (n' := 4) rfl ?_
    refine q1 _ ?_
    refine step (v := V.undef) (σ' := (ak (ak (ac [(0, .var [vi a0.Op, vi a0.F, vh a0.N, .loc 1 0 l5.length]), (1, .lst true (some 4) (List.map aq l5)), (2, aN)]) 3 (some (aN))) 3 (some (bw x12)))) (n' := 4) rfl ?_
    exact nR [0, 1, 2, 3]
   obtain ⟨r13, hr13, h⟩ := ax h
   obtain ⟨l14, hl14, h⟩ := ax h
   refine bO ⟨tab [(1, bn a1), (2, .ptr 0 0 0), (4, .ptr 2 0 0), (20, .loc 1 0 l14.length), (21, vi (r4.length : Int)), (22, vi i6)], ac [(0, .var [vi a0.Op, vi a0.F, vh a0.N, .loc 1 0 l14.length]), (1, .lst true (some 4) (List.map aq l14)), (2, aN)], 3⟩ ?_ ?_
   ·
    iterate 3 refine q1 _ ?_
    refine step (v := vs1 x12) (c9 (ds := [.int .i64 x12.Op, .int .i64 x12.F, .int .u16 x12.N, eL (some 4) aq x12.Kids]) rfl rfl (show 4 ≤ 4 by decide) rfl) ?_
    refine q1 _ ?_
    refine bu (r := a8 r13) (aJ (aJ aQ.nil')) (hself _ _ _ hr13) ?_
    refine step (v := .ptr 1 i6.toNat 0) (gD (xs := l5) (e := aq) hx12 rfl rfl rfl rfl) ?_
    refine step (v := V.undef) (σ' := (ak (ac [(0, .var [vi a0.Op, vi a0.F, vh a0.N, .loc 1 0 l5.length]), (1, .lst true (some 4) (List.map aq l5)), (2, aN), (3, bw x12)]) 1 (some (.lst true (some 4) (List.map aq l14))))) (n' := 4) (pU (e := aq) (v' := r13) hl14 rfl rfl rfl (cq _) rfl rfl) ?_
    exact aM.nil' (nm [0, 1, 2] ⟨.d _, .pt 0, .pt 2, .le (id := 1) (kA hl14).symm (show 1 < 3 by decide), .d _, .d _, trivial⟩ ⟨⟨show 0 < 3 by decide, _, rfl, .vars ⟨.d _, .d _, .d _, .le (id := 1) (kA hl14).symm (show 1 < 3 by decide), trivial⟩⟩, ⟨show 1 < 3 by decide, _, rfl, .lst _ _ _⟩, ⟨show 2 < 3 by decide, _, rfl, .vars ⟨.d _, .d _, .d _, .d _, trivial⟩⟩, trivial⟩)
   have hh := ap h
   subst hh
   refine bO ⟨tab [(1, bn a1), (2, .ptr 0 0 0), (4, .ptr 2 0 0), (20, .loc 1 0 l14.length), (21, vi (r4.length : Int)), (22, vi (i6 + 1))], ac [(0, .var [vi a0.Op, vi a0.F, vh a0.N, .loc 1 0 l14.length]), (1, .lst true (some 4) (List.map aq l14)), (2, aN)], 3⟩ ?_ ?_
   ·
    refine step (v := vi (i6 + 1)) (cS (cT hinv9 hgo8 hB7) rfl rfl) ?_
    refine q1 _ ?_
    exact nR [0, 1, 2]
   exact And.intro rfl rfl
  ·
   rintro i6 l5 hinv9 hgo8
   show aI _ _ _ _ _ ⟨tab [(1, bn a1), (2, .ptr 0 0 0), (4, .ptr 2 0 0), (20, .loc 1 0 l5.length), (21, vi (r4.length : Int)), (22, vi i6)], ac [(0, .var [vi a0.Op, vi a0.F, vh a0.N, .loc 1 0 l5.length]), (1, .lst true (some 4) (List.map aq l5)), (2, aN)], 3⟩
   have hc10 : ¬ (decide (i6 < (r4.length : Int)) = true) := fun hq => hgo8 (of_decide_eq_true hq)
   refine aj ⟨tab [(1, bn a1), (2, .ptr 0 0 0), (4, .ptr 2 0 0), (20, .loc 1 0 l5.length), (21, vi (r4.length : Int)), (22, vi i6), (23, vb (decide (i6 < (r4.length : Int))))], ac [(0, .var [vi a0.Op, vi a0.F, vh a0.N, .loc 1 0 l5.length]), (1, .lst true (some 4) (List.map aq l5)), (2, aN)], 3⟩ ?_ ?_
   ·
    refine q1 _ ?_
    exact nR [0, 1, 2]
   refine aG ?_
   refine aT (t := decide (i6 < (r4.length : Int))) rfl hc10 ?_
   refine be (s0 := ⟨tab [(2, .ptr 0 0 0), (4, .ptr 2 0 0)], ac [(0, .var [vi a0.Op, vi a0.F, vh a0.N, .loc 1 0 l5.length]), (1, .lst true (some 4) (List.map aq l5)), (2, aN)], 3⟩) (nr [0, 1, 2]) ?_
   refine cN ?_
   exact And.intro rfl rfl
  refine aj ⟨tab [(4, .ptr 0 0 0)], ac [(0, .var [vi a0.Op, vi a0.F, vh a0.N, .loc 1 0 z15.length]), (1, .lst true (some 4) (List.map aq z15))], 2⟩ ?_ ?_
  ·
   refine q1 _ ?_
   refine step (v := V.undef) (σ' := (ak (ac [(0, .var [vi a0.Op, vi a0.F, vh a0.N, .loc 1 0 z15.length]), (1, .lst true (some 4) (List.map aq z15)), (2, aN)]) 2 (some (.var [vi a0.Op, vi a0.F, vh a0.N, .loc 1 0 z15.length])))) (n' := 3) rfl ?_
   exact nR [2, 1]
  have hh := ap h
  subst hh
  refine aU ?_
  show FQ _ _ _ _
  exact bk (.inr rfl) rfl (RV.agg (cU.d (cU.d (cU.d (cU.loc (xs := z15) (e := aq) rfl rfl trivial)))) trivial)
theorem rS : ∀ (k : Nat) (a0 : ah) (a1 : (List Int)) (r : ah), hZ k a0 a1 = some r → PCall Try.prog 24 [a8 a0, eL none (D.int .u16) a1] (a8 r)
 | 0, _, _, _, h => by cases h
 | k + 1, _, _, _, h => yS (rS k) h
theorem yT {a0 : ah} {a1 : (List Int)} {r : ah} (h : nf a0 a1 = some r) : PCall Try.prog 24 [a8 a0, eL none (D.int .u16) a1] (a8 r) := rS cn _ _ _ h
theorem yU {self : ah → (List Int) → Option ah} (hself : ∀ (a0 : ah) (a1 : (List Int)) (r : ah), self a0 a1 = some r → PCall Try.prog 26 [a8 a0, eL none (D.int .u16) a1] (a8 r)) {a0 : ah} {a1 : (List Int)} {r : ah} (h : lj self a0 a1 = some r) : PCall Try.prog 26 [a8 a0, eL none (D.int .u16) a1] (a8 r) := by
 refine PCall.introN xU (show 2 ≤ 52 by decide) ?_
 refine be (s0 := ⟨tab [(0, vs1 a0), (1, bn a1)], ac [], 0⟩) (nr []) ?_
 refine aj ⟨tab [(1, bn a1), (2, .ptr 0 0 0), (4, .ptr 1 0 0)], ac [(0, bw a0), (1, aN)], 2⟩ ?_ ?_
 ·
  refine step (v := .ptr 0 0 0) (σ' := (ak (ac []) 0 (some (bw a0)))) (n' := 1) rfl ?_
  refine step (v := .ptr 1 0 0) (σ' := (ak (ak (ac []) 0 (some (bw a0))) 1 (some (aN)))) (n' := 2) rfl ?_
  exact nR [0, 1]
 refine aG ?_
 refine aj ⟨tab [(1, bn a1), (2, .ptr 0 0 0), (4, .ptr 1 0 0), (9, vb (a0.Op == 3))], ac [(0, bw a0), (1, aN)], 2⟩ ?_ ?_
 ·
  iterate 3 refine q1 _ ?_
  exact nR [0, 1]
 by_cases hc1 : (a0.Op == 3) = true
 ·
  replace h := aK hc1 h
  refine aW (t := (a0.Op == 3)) rfl hc1 ?_
  refine aG ?_
  obtain ⟨y5, hv, h⟩ := ax h
  refine aj ⟨tab [(4, .ptr 0 0 0), (29, vb y5)], ac [(0, aN)], 1⟩ ?_ ?_
  ·
   iterate 4 refine q1 _ ?_
   by_cases hg2 : decide (a0.F ≥ 0) = true
   ·
    replace hv := aK hg2 hv
    refine qG _ hg2 ?_
    refine q1 _ ?_
    refine qG _ hg2 ?_
    refine q1 _ ?_
    refine qG _ hg2 ?_
    refine q1 _ ?_
    refine qG _ hg2 ?_
    refine step (v := vi (a1.length : Int)) (bE (xs := a1) (e := (D.int .u16)) rfl) ?_
    refine qG _ hg2 ?_
    refine q1 _ ?_
    refine step (v := vb (decide (a0.F < (a1.length : Int)))) (aO (b := decide (a0.F ≥ 0)) rfl hg2 rfl) ?_
    refine q1 _ ?_
    by_cases hg3 : decide (a0.F < (a1.length : Int)) = true
    ·
     replace hv := aK hg3 hv
     obtain ⟨x4, hx4, hv⟩ := ax hv
     refine qG _ hg3 ?_
     refine q1 _ ?_
     refine qG _ hg3 ?_
     refine q1 _ ?_
     refine qG _ hg3 ?_
     refine q1 _ ?_
     refine qG _ hg3 ?_
     refine step (v := .d (.cptr none (.int .u16 x4) 0)) (de (xs := a1) (e := (D.int .u16)) hx4 rfl rfl) ?_
     refine qG _ hg3 ?_
     refine q1 _ ?_
     refine qG _ hg3 ?_
     refine q1 _ ?_
     refine qG _ hg3 ?_
     refine q1 _ ?_
     refine qG _ hg3 ?_
     refine q1 _ ?_
     refine step (v := vb (x4 == a0.N)) (aO (b := decide (a0.F < (a1.length : Int))) rfl hg3 rfl) ?_
     have hh := ap hv
     subst hh
     exact nR [1]
    ·
     replace hv := aL hg3 hv
     iterate 8 refine qX _ hg3 ?_
     refine step (v := vb false) (aS (b := decide (a0.F < (a1.length : Int))) rfl hg3 rfl) ?_
     have hh := ap hv
     subst hh
     exact nR [1]
   ·
    replace hv := aL hg2 hv
    iterate 5 refine qX _ hg2 ?_
    refine step (v := vb false) (aS (b := decide (a0.F ≥ 0)) rfl hg2 rfl) ?_
    refine q1 _ ?_
    iterate 8 refine qX false (by decide) ?_
    refine step (v := vb false) (aS (b := false) rfl (by decide) rfl) ?_
    have hh := ap hv
    subst hh
    exact nR [1]
  by_cases hc7 : y5 = true
  ·
   replace h := aK hc7 h
   refine aW (t := y5) rfl hc7 ?_
   refine aj ⟨tab [(4, .ptr 0 0 0)], ac [(0, .var [vi 1, vi 0, vh 0, aV []])], 1⟩ ?_ ?_
   ·
    refine step (v := vs1 (ah.mk 1 0 0 [])) (dz (ds := [.int .i64 1, .int .i64 0, .int .u16 0, eL (some 4) aq []]) rfl) ?_
    refine step (v := V.undef) (σ' := (ak (ac [(0, aN)]) 0 (some (.var [vi 1, vi 0, vh 0, aV []])))) (n' := 1) rfl ?_
    exact nR [0]
   have hh := ap h
   subst hh
   refine aU ?_
   show FQ _ _ _ _
   exact bk (.inr rfl) (fI (ds := [.int .i64 1, .int .i64 0, .int .u16 0, eL (some 4) aq []]) rfl rfl (show 4 ≤ 4 by decide) rfl rfl) (RV.d trivial)
  ·
   replace h := aL hc7 h
   refine aT (t := y5) rfl hc7 ?_
   refine bo ?_
   refine aj ⟨tab [(4, .ptr 0 0 0)], ac [(0, aN)], 1⟩ ?_ ?_
   ·
    refine step (v := vs1 (ah.mk 0 0 0 [])) (dz (ds := [.int .i64 0, .int .i64 0, .int .u16 0, eL (some 4) aq []]) rfl) ?_
    refine step (v := V.undef) (σ' := (ak (ac [(0, aN)]) 0 (some (aN)))) (n' := 1) rfl ?_
    exact nR [0]
   have hh := ap h
   subst hh
   refine aU ?_
   show FQ _ _ _ _
   exact bk (.inr rfl) (fI (ds := [.int .i64 0, .int .i64 0, .int .u16 0, eL (some 4) aq []]) rfl rfl (show 4 ≤ 4 by decide) rfl rfl) (RV.d trivial)
 ·
  replace h := aL hc1 h
  refine aT (t := (a0.Op == 3)) rfl hc1 ?_
  refine bo ?_
  refine aj ⟨tab [(1, bn a1), (2, .ptr 0 0 0), (4, .ptr 1 0 0), (5, .d (.nils))], ac [(0, bw a0), (1, aN)], 2⟩ ?_ ?_
  ·
   refine q1 _ ?_
   exact nR [0, 1]
  refine aG ?_
  refine aj ⟨tab [(1, bn a1), (2, .ptr 0 0 0), (4, .ptr 1 0 0), (5, .d (.nils)), (6, vi 0)], ac [(0, bw a0), (1, aN)], 2⟩ ?_ ?_
  ·
   refine q1 _ ?_
   exact nR [0, 1]
  obtain ⟨z18, hl, h⟩ := ax h
  refine be (s0 := ⟨tab [(1, bn a1), (2, .ptr 0 0 0), (4, .ptr 1 0 0), (5, .loc 2 0 (([] : List ah).length)), (6, vi 0)], ac [(0, bw a0), (1, aN), (2, .lst false (some 4) (List.map aq ([] : List ah)))], 3⟩) (bS.trans (s2 := ⟨tab [(1, bn a1), (2, .ptr 0 0 0), (4, .ptr 1 0 0), (5, .loc 2 0 (([] : List ah).length)), (6, vi 0)], ac [(0, bw a0), (1, aN), (2, .lst false (some 4) (List.map aq ([] : List ah)))], 3⟩) (iI 5 false (some 4) rfl) (nr [0, 1, 2])) ?_
  refine bJ ?_
  refine gC (cQ (a0.Kids.length : Int)) (fun (i9 : Int) (qq : (List ah)) => ⟨tab [(1, bn a1), (2, .ptr 0 0 0), (4, .ptr 1 0 0), (5, .loc 2 0 qq.length), (6, vi i9)], ac [(0, bw a0), (1, aN), (2, .lst false (some 4) (List.map aq qq))], 3⟩) 0 (fun (qq : (List ah)) => ⟨tab [(2, .ptr 0 0 0), (4, .ptr 1 0 0), (5, .loc 2 0 qq.length)], ac [(0, bw a0), (1, aN), (2, .lst false (some 4) (List.map aq qq))], 3⟩) bK cR hl (by unfold bK; omega) ?_ ?_ ?_
  ·
   rintro i9 l8 xr14 hinv12 hgo11 h
   show aI _ _ _ _ _ ⟨tab [(1, bn a1), (2, .ptr 0 0 0), (4, .ptr 1 0 0), (5, .loc 2 0 l8.length), (6, vi i9)], ac [(0, bw a0), (1, aN), (2, .lst false (some 4) (List.map aq l8))], 3⟩
   have hc13 : decide (i9 < (a0.Kids.length : Int)) = true := decide_eq_true hgo11
   refine aG ?_
   refine aj ⟨tab [(1, bn a1), (2, .ptr 0 0 0), (4, .ptr 1 0 0), (5, .loc 2 0 l8.length), (6, vi i9), (35, vi (a0.Kids.length : Int)), (36, vb (decide (i9 < (a0.Kids.length : Int))))], ac [(0, bw a0), (1, aN), (2, .lst false (some 4) (List.map aq l8))], 3⟩ ?_ ?_
   ·
    iterate 3 refine q1 _ ?_
    refine step (v := vi (a0.Kids.length : Int)) (bE (xs := a0.Kids) (e := aq) rfl) ?_
    refine q1 _ ?_
    exact nR [0, 1, 2]
   refine cY 35 rfl fun hB10 => ?_
   refine aW (t := decide (i9 < (a0.Kids.length : Int))) rfl hc13 ?_
   refine bo ?_
   refine aG ?_
   refine bJ ?_
   obtain ⟨x15, hx15, h⟩ := ax h
   obtain ⟨r16, hr16, h⟩ := ax h
   obtain ⟨l17, hl17, h⟩ := ax h
   refine bO ⟨tab [(1, bn a1), (2, .ptr 0 0 0), (4, .ptr 1 0 0), (5, .loc 2 0 l17.length), (6, vi i9)], ac [(0, bw a0), (1, aN), (2, .lst false (some 4) (List.map aq l17))], 3⟩ ?_ ?_
   ·
    iterate 4 refine q1 _ ?_
    refine step (v := aD x15) (dI (xs := a0.Kids) (e := aq) hx15 rfl rfl (cq _)) ?_
    iterate 2 refine q1 _ ?_
    refine bu (r := a8 r16) (aJ (aJ aQ.nil')) (hself _ _ _ hr16) ?_
    refine step (v := aV ([r16] : List ah)) (iH rfl (by simp [eL, cq])) ?_
    refine step (v := .loc 3 0 l17.length) (σ' := (ak (ak (ac [(0, bw a0), (1, aN), (2, .lst false (some 4) (List.map aq l8))]) 2 none) 3 (some (.lst false (some 4) (List.map aq l17))))) (n' := 4) (fj (xs := l8) (ys := ([r16] : List ah)) (e := aq) hl17 rfl rfl rfl (fH (xs := ([r16] : List ah)) (e := aq) rfl)) ?_
    refine q1 _ ?_
    exact nR [0, 1, 3]
   have hh := ap h
   subst hh
   refine bO ⟨tab [(1, bn a1), (2, .ptr 0 0 0), (4, .ptr 1 0 0), (5, .loc 2 0 l17.length), (6, vi (i9 + 1))], ac [(0, bw a0), (1, aN), (2, .lst false (some 4) (List.map aq l17))], 3⟩ ?_ ?_
   ·
    refine q1 _ ?_
    refine step (v := vi (i9 + 1)) (cS (cT hinv12 hgo11 hB10) rfl rfl) ?_
    refine q1 _ ?_
    exact nR [0, 1, 2]
   exact And.intro rfl rfl
  ·
   rintro i9 l8 hinv12 hgo11
   show aI _ _ _ _ _ ⟨tab [(1, bn a1), (2, .ptr 0 0 0), (4, .ptr 1 0 0), (5, .loc 2 0 l8.length), (6, vi i9)], ac [(0, bw a0), (1, aN), (2, .lst false (some 4) (List.map aq l8))], 3⟩
   have hc13 : ¬ (decide (i9 < (a0.Kids.length : Int)) = true) := fun hq => hgo11 (of_decide_eq_true hq)
   refine aG ?_
   refine aj ⟨tab [(1, bn a1), (2, .ptr 0 0 0), (4, .ptr 1 0 0), (5, .loc 2 0 l8.length), (6, vi i9), (36, vb (decide (i9 < (a0.Kids.length : Int))))], ac [(0, bw a0), (1, aN), (2, .lst false (some 4) (List.map aq l8))], 3⟩ ?_ ?_
   ·
    iterate 3 refine q1 _ ?_
    refine step (v := vi (a0.Kids.length : Int)) (bE (xs := a0.Kids) (e := aq) rfl) ?_
    refine q1 _ ?_
    exact nR [0, 1, 2]
   refine aT (t := decide (i9 < (a0.Kids.length : Int))) rfl hc13 ?_
   refine be (s0 := ⟨tab [(2, .ptr 0 0 0), (4, .ptr 1 0 0), (5, .loc 2 0 l8.length)], ac [(0, bw a0), (1, aN), (2, .lst false (some 4) (List.map aq l8))], 3⟩) (nr [0, 1, 2]) ?_
   refine cN ?_
   exact And.intro rfl rfl
  refine aj ⟨tab [(2, .ptr 0 0 0), (4, .ptr 2 0 0)], ac [(0, .var [vi a0.Op, vi a0.F, vh a0.N, .loc 1 0 z18.length]), (1, .lst false (some 4) (List.map aq z18)), (2, aN)], 3⟩ ?_ ?_
  ·
   iterate 2 refine q1 _ ?_
   refine step (v := V.undef) (σ' := (ak (ac [(0, bw a0), (1, aN), (2, .lst false (some 4) (List.map aq z18))]) 0 (some (.var [vi a0.Op, vi a0.F, vh a0.N, .loc 2 0 z18.length])))) (n' := 3) rfl ?_
   exact nR [0, 2, 1]
  refine aj ⟨tab [(4, .ptr 0 0 0)], ac [(0, .var [vi a0.Op, vi a0.F, vh a0.N, .loc 1 0 z18.length]), (1, .lst false (some 4) (List.map aq z18))], 2⟩ ?_ ?_
  ·
   refine q1 _ ?_
   refine step (v := V.undef) (σ' := (ak (ac [(0, .var [vi a0.Op, vi a0.F, vh a0.N, .loc 1 0 z18.length]), (1, .lst false (some 4) (List.map aq z18)), (2, aN)]) 2 (some (.var [vi a0.Op, vi a0.F, vh a0.N, .loc 1 0 z18.length])))) (n' := 3) rfl ?_
   exact nR [2, 1]
  have hh := ap h
  subst hh
  refine aU ?_
  show FQ _ _ _ _
  exact bk (.inr rfl) rfl (RV.agg (cU.d (cU.d (cU.d (cU.loc (xs := z18) (e := aq) rfl rfl trivial)))) trivial)
theorem rT : ∀ (k : Nat) (a0 : ah) (a1 : (List Int)) (r : ah), iS k a0 a1 = some r → PCall Try.prog 26 [a8 a0, eL none (D.int .u16) a1] (a8 r)
 | 0, _, _, _, h => by cases h
 | k + 1, _, _, _, h => yU (rT k) h
theorem yV {a0 : ah} {a1 : (List Int)} {r : ah} (h : ni a0 a1 = some r) : PCall Try.prog 26 [a8 a0, eL none (D.int .u16) a1] (a8 r) := rT cn _ _ _ h
theorem yW {self : ah → ah → Option Bool} (hself : ∀ (a0 : ah) (a1 : ah) (r : Bool), self a0 a1 = some r → PCall Try.prog 25 [a8 a0, a8 a1] (.bool r)) {a0 : ah} {a1 : ah} {r : Bool} (h : lk self a0 a1 = some r) : PCall Try.prog 25 [a8 a0, a8 a1] (.bool r) := by
 refine PCall.introN xW (show 2 ≤ 53 by decide) ?_
 refine be (s0 := ⟨tab [(0, vs1 a0), (1, vs1 a1)], ac [], 0⟩) (nr []) ?_
 refine aj ⟨tab [(2, aD a0), (3, aD a1)], ac [], 0⟩ ?_ ?_
 ·
  iterate 3 refine q1 _ ?_
  exact nR []
 refine aG ?_
 refine aj ⟨tab [(2, aD a0), (3, aD a1), (33, vb ((a0.Op != a1.Op) || ((a0.F != a1.F) || ((a0.N != a1.N) || ((a0.Kids.length : Int) != (a1.Kids.length : Int))))))], ac [], 0⟩ ?_ ?_
 ·
  iterate 6 refine q1 _ ?_
  by_cases hg1 : (a0.Op != a1.Op) = true
  ·
   iterate 5 refine qX (a0.Op != a1.Op) (by rw [hg1]; decide) ?_
   refine step (v := vb true) (aO (b := (a0.Op != a1.Op)) rfl hg1 rfl) ?_
   refine q1 _ ?_
   iterate 5 refine qX true (by decide) ?_
   refine step (v := vb true) (aO (b := true) rfl rfl rfl) ?_
   refine q1 _ ?_
   iterate 7 refine qX true (by decide) ?_
   refine step (v := vb true) (aO (b := true) rfl rfl rfl) ?_
   exact aM.nil' (nm [] ⟨.d _, .d _, .eq (by first | (simp [hg1]; done) | (simp_all; done) | grind), trivial⟩ trivial)
  ·
   refine qG (a0.Op != a1.Op) (Bool.eq_false_iff.2 hg1) ?_
   refine q1 _ ?_
   refine qG (a0.Op != a1.Op) (Bool.eq_false_iff.2 hg1) ?_
   refine q1 _ ?_
   refine qG (a0.Op != a1.Op) (Bool.eq_false_iff.2 hg1) ?_
   refine q1 _ ?_
   refine qG (a0.Op != a1.Op) (Bool.eq_false_iff.2 hg1) ?_
   refine q1 _ ?_
   refine qG (a0.Op != a1.Op) (Bool.eq_false_iff.2 hg1) ?_
   refine q1 _ ?_
   refine step (v := vb (a0.F != a1.F)) (aS (b := (a0.Op != a1.Op)) rfl hg1 rfl) ?_
   refine q1 _ ?_
   by_cases hg2 : (a0.F != a1.F) = true
   ·
    iterate 5 refine qX (a0.F != a1.F) (by rw [hg2]; decide) ?_
    refine step (v := vb true) (aO (b := (a0.F != a1.F)) rfl hg2 rfl) ?_
    refine q1 _ ?_
    iterate 7 refine qX true (by decide) ?_
    refine step (v := vb true) (aO (b := true) rfl rfl rfl) ?_
    exact aM.nil' (nm [] ⟨.d _, .d _, .eq (by first | (simp [hg1, hg2]; done) | (simp_all; done) | grind), trivial⟩ trivial)
   ·
    refine qG (a0.F != a1.F) (Bool.eq_false_iff.2 hg2) ?_
    refine q1 _ ?_
    refine qG (a0.F != a1.F) (Bool.eq_false_iff.2 hg2) ?_
    refine q1 _ ?_
    refine qG (a0.F != a1.F) (Bool.eq_false_iff.2 hg2) ?_
    refine q1 _ ?_
    refine qG (a0.F != a1.F) (Bool.eq_false_iff.2 hg2) ?_
    refine q1 _ ?_
    refine qG (a0.F != a1.F) (Bool.eq_false_iff.2 hg2) ?_
    refine q1 _ ?_
    refine step (v := vb (a0.N != a1.N)) (aS (b := (a0.F != a1.F)) rfl hg2 rfl) ?_
    refine q1 _ ?_
    by_cases hg3 : (a0.N != a1.N) = true
    ·
     iterate 7 refine qX (a0.N != a1.N) (by rw [hg3]; decide) ?_
     refine step (v := vb true) (aO (b := (a0.N != a1.N)) rfl hg3 rfl) ?_
     exact aM.nil' (nm [] ⟨.d _, .d _, .eq (by first | (simp [hg1, hg2, hg3]; done) | (simp_all; done) | grind), trivial⟩ trivial)
    ·
     refine qG (a0.N != a1.N) (Bool.eq_false_iff.2 hg3) ?_
     refine q1 _ ?_
     refine qG (a0.N != a1.N) (Bool.eq_false_iff.2 hg3) ?_
     refine q1 _ ?_
     refine qG (a0.N != a1.N) (Bool.eq_false_iff.2 hg3) ?_
     refine step (v := vi (a0.Kids.length : Int)) (bE (xs := a0.Kids) (e := aq) rfl) ?_
     refine qG (a0.N != a1.N) (Bool.eq_false_iff.2 hg3) ?_
     refine q1 _ ?_
     refine qG (a0.N != a1.N) (Bool.eq_false_iff.2 hg3) ?_
     refine q1 _ ?_
     refine qG (a0.N != a1.N) (Bool.eq_false_iff.2 hg3) ?_
     refine step (v := vi (a1.Kids.length : Int)) (bE (xs := a1.Kids) (e := aq) rfl) ?_
     refine qG (a0.N != a1.N) (Bool.eq_false_iff.2 hg3) ?_
     refine q1 _ ?_
     refine step (v := vb ((a0.Kids.length : Int) != (a1.Kids.length : Int))) (aS (b := (a0.N != a1.N)) rfl hg3 rfl) ?_
     exact aM.nil' (nm [] ⟨.d _, .d _, .eq (by first | (simp [hg1, hg2, hg3]; done) | (simp_all; done) | grind), trivial⟩ trivial)
 by_cases hc4 : ((a0.Op != a1.Op) || ((a0.F != a1.F) || ((a0.N != a1.N) || ((a0.Kids.length : Int) != (a1.Kids.length : Int))))) = true
 ·
  replace h := aK hc4 h
  refine aW (t := ((a0.Op != a1.Op) || ((a0.F != a1.F) || ((a0.N != a1.N) || ((a0.Kids.length : Int) != (a1.Kids.length : Int)))))) rfl hc4 ?_
  refine aj ⟨tab [(4, vb false)], ac [], 0⟩ ?_ ?_
  ·
   refine q1 _ ?_
   exact nR []
  have hh := ap h
  subst hh
  refine aU ?_
  show FQ _ _ _ _
  exact bk (.inr rfl) (bp (v := vb false) rfl rfl) (RV.d trivial)
 ·
  replace h := aL hc4 h
  refine aT (t := ((a0.Op != a1.Op) || ((a0.F != a1.F) || ((a0.N != a1.N) || ((a0.Kids.length : Int) != (a1.Kids.length : Int)))))) rfl hc4 ?_
  refine bo ?_
  refine aG ?_
  refine aj ⟨tab [(2, aD a0), (3, aD a1), (5, vi 0)], ac [], 0⟩ ?_ ?_
  ·
   refine q1 _ ?_
   exact nR []
  obtain ⟨q15, hl, h⟩ := ax h
  refine bJ ?_
  refine ew (cQ (a0.Kids.length : Int)) (fun (i5 : Int) (qq : Unit) => ⟨tab [(2, aD a0), (3, aD a1), (5, vi i5)], ac [], 0⟩) 0 (fun (qq : Unit) => ⟨tab [], ac [], 0⟩) bK cR (r := r) hl (by unfold bK; omega) ?_ ?_ ?_ ?_
  ·
   rintro i5 ⟨⟩ xr10 hinv8 hgo7 h
   show aI _ _ _ _ _ ⟨tab [(2, aD a0), (3, aD a1), (5, vi i5)], ac [], 0⟩
   have hc9 : decide (i5 < (a0.Kids.length : Int)) = true := decide_eq_true hgo7
   refine aG ?_
   refine aj ⟨tab [(2, aD a0), (3, aD a1), (5, vi i5), (37, vi (a0.Kids.length : Int)), (38, vb (decide (i5 < (a0.Kids.length : Int))))], ac [], 0⟩ ?_ ?_
   ·
    iterate 3 refine q1 _ ?_
    refine step (v := vi (a0.Kids.length : Int)) (bE (xs := a0.Kids) (e := aq) rfl) ?_
    refine q1 _ ?_
    exact nR []
   refine cY 37 rfl fun hB6 => ?_
   refine aW (t := decide (i5 < (a0.Kids.length : Int))) rfl hc9 ?_
   refine bo ?_
   refine aG ?_
   refine bJ ?_
   obtain ⟨x11, hx11, h⟩ := ax h
   obtain ⟨x12, hx12, h⟩ := ax h
   obtain ⟨r13, hr13, h⟩ := ax h
   refine aj ⟨tab [(2, aD a0), (3, aD a1), (5, vi i5), (52, vb (!r13))], ac [], 0⟩ ?_ ?_
   ·
    iterate 3 refine q1 _ ?_
    refine step (v := aD x11) (dI (xs := a0.Kids) (e := aq) hx11 rfl rfl (cq _)) ?_
    iterate 4 refine q1 _ ?_
    refine step (v := aD x12) (dI (xs := a1.Kids) (e := aq) hx12 rfl rfl (cq _)) ?_
    refine q1 _ ?_
    refine bu (r := .bool r13) (aJ (aJ aQ.nil')) (hself _ _ _ hr13) ?_
    refine q1 _ ?_
    exact nR []
   by_cases hc14 : (!r13) = true
   ·
    replace h := aK hc14 h
    refine aW (t := (!r13)) rfl hc14 ?_
    refine aj ⟨tab [(4, vb false)], ac [], 0⟩ ?_ ?_
    ·
     refine q1 _ ?_
     exact nR []
    obtain ⟨r15, kr15, hr⟩ := c8 (o := some false) (g := Br.ret) h
    subst hr
    have h := kr15
    have hh := ap h
    subst hh
    refine aU ?_
    refine And.intro (fun hn => nomatch hn) ?_
    intro hq
    have hq := hq.symm
    subst hq
    show FQ _ _ _ _
    exact bk (.inr rfl) (bp (v := vb false) rfl rfl) (RV.d trivial)
   ·
    replace h := aL hc14 h
    refine aT (t := (!r13)) rfl hc14 ?_
    refine bo ?_
    have hh := ap h
    subst hh
    refine bO ⟨tab [(2, aD a0), (3, aD a1), (5, vi (i5 + 1))], ac [], 0⟩ ?_ ?_
    ·
     refine q1 _ ?_
     refine step (v := vi (i5 + 1)) (cS (cT hinv8 hgo7 hB6) rfl rfl) ?_
     refine q1 _ ?_
     exact nR []
    exact And.intro rfl rfl
  ·
   rintro i5 ⟨⟩ hinv8 hgo7
   show aI _ _ _ _ _ ⟨tab [(2, aD a0), (3, aD a1), (5, vi i5)], ac [], 0⟩
   have hc9 : ¬ (decide (i5 < (a0.Kids.length : Int)) = true) := fun hq => hgo7 (of_decide_eq_true hq)
   refine aG ?_
   refine aj ⟨tab [(2, aD a0), (3, aD a1), (5, vi i5), (38, vb (decide (i5 < (a0.Kids.length : Int))))], ac [], 0⟩ ?_ ?_
   ·
    iterate 3 refine q1 _ ?_
    refine step (v := vi (a0.Kids.length : Int)) (bE (xs := a0.Kids) (e := aq) rfl) ?_
    refine q1 _ ?_
    exact nR []
   refine aT (t := decide (i5 < (a0.Kids.length : Int))) rfl hc9 ?_
   refine be (s0 := ⟨tab [], ac [], 0⟩) (nr []) ?_
   refine cN ?_
   exact And.intro rfl rfl
  ·
   intro r' hq
   subst hq
   exact ap h
  rintro ⟨⟩ rfl
  refine aj ⟨tab [(4, vb true)], ac [], 0⟩ ?_ ?_
  ·
   refine q1 _ ?_
   exact nR []
  have hh := ap h
  subst hh
  refine aU ?_
  show FQ _ _ _ _
  exact bk (.inr rfl) (bp (v := vb true) rfl rfl) (RV.d trivial)
theorem rU : ∀ (k : Nat) (a0 : ah) (a1 : ah) (r : Bool), iT k a0 a1 = some r → PCall Try.prog 25 [a8 a0, a8 a1] (.bool r)
 | 0, _, _, _, h => by cases h
 | k + 1, _, _, _, h => yW (rU k) h
theorem yX {a0 : ah} {a1 : ah} {r : Bool} (h : nk a0 a1 = some r) : PCall Try.prog 25 [a8 a0, a8 a1] (.bool r) := rU cn _ _ _ h
end Go.AM
