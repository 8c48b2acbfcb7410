import Derived.Test.YtkgegocfjalcbaaSpW1
/-  What they are in the program: walks. -/
set_option linter.unusedVariables false
set_option linter.unusedSimpArgs false
namespace Go.AM
open Go Go.RowKit Go.Proofs

attribute [local irreducible] RunOps RunOpsL

theorem c_ref05_formed_s {self : api_Pol → Int → Option Bool} (hself : ∀ (a0 : api_Pol) (a1 : Int) (r : Bool), self a0 a1 = some r → PCall Try.prog 79 [uapi_Pol a0, .int .i64 a1] (.bool r)) {a0 : api_Pol} {a1 : Int} {r : Bool} (h : ref05_formed_s self a0 a1 = some r) : PCall Try.prog 79 [uapi_Pol a0, .int .i64 a1] (.bool r) := by
 refine PCall.introN ok79 (show 2 ≤ 127 by decide) ?_
 refine NWp.norm (s0 := ⟨tab [(0, vs2 a0), (1, vi a1)], stab [], 0⟩) (nr []) ?_
 refine NWp.opsJ ⟨tab [(1, vi a1), (2, vp1 a0)], stab [], 0⟩ ?_ ?_
 ·
  iterate 2 refine q1 _ ?_
  exact nR []
 refine NWp.opsJ ⟨tab [(1, vi a1), (2, vp1 a0), (5, vi (a0.Kids.length : Int))], stab [], 0⟩ ?_ ?_
 ·
  iterate 2 refine q1 _ ?_
  refine step (v := vi (a0.Kids.length : Int)) (st_len (xs := a0.Kids) (e := eapi_Pol) rfl) ?_
  refine q1 _ ?_
  exact nR []
 refine NWp.seq ?_
 refine NWp.opsJ ⟨tab [(1, vi a1), (2, vp1 a0), (5, vi (a0.Kids.length : Int)), (11, vi a0.Op)], stab [], 0⟩ ?_ ?_
 ·
  iterate 2 refine q1 _ ?_
  exact nR []
 refine NWp.block ?_
 obtain ⟨y2, hv, h⟩ := bindE h
 refine NWp.seqN ⟨tab [(1, vi a1), (2, vp1 a0), (5, vi (a0.Kids.length : Int)), (11, vi a0.Op), (12, vb y2)], stab [], 0⟩ ?_ ?_
 ·
  replace h := hv
  refine NWp.opsJ ⟨tab [(1, vi a1), (2, vp1 a0), (5, vi (a0.Kids.length : Int)), (11, vi a0.Op), (12, vb (a0.Op == 0))], stab [], 0⟩ ?_ ?_
  ·
   iterate 2 refine q1 _ ?_
   exact nR []
  by_cases hc1 : (a0.Op == 0) = true
  ·
   replace h := iteT hc1 h
   refine NWp.condT (t := (a0.Op == 0)) rfl hc1 ?_
   have hh := Option.some.inj h
   subst hh
   refine NWp.norm (s0 := ⟨tab [(1, vi a1), (2, vp1 a0), (5, vi (a0.Kids.length : Int)), (11, vi a0.Op), (12, vb (a0.Op == 0))], stab [], 0⟩) (nr []) ?_
   refine NWp.skip ?_
   exact And.intro rfl rfl
  ·
   replace h := iteF hc1 h
   refine NWp.condF (t := (a0.Op == 0)) rfl hc1 ?_
   have hh := Option.some.inj h
   subst hh
   refine NWp.opsE ⟨tab [(1, vi a1), (2, vp1 a0), (5, vi (a0.Kids.length : Int)), (11, vi a0.Op), (12, vb (a0.Op == 1))], stab [], 0⟩ ?_ ?_
   ·
    iterate 2 refine q1 _ ?_
    exact nR []
   exact And.intro rfl rfl
 by_cases hc4 : y2 = true
 ·
  replace h := iteT hc4 h
  refine NWp.condT (t := y2) rfl hc4 ?_
  refine NWp.opsJ ⟨tab [(4, vb (((a0.Kids.length : Int) == 0) && ((a0.F == 0) && (a0.N == 0))))], stab [], 0⟩ ?_ ?_
  ·
   iterate 3 refine q1 _ ?_
   by_cases hg5 : ((a0.Kids.length : Int) == 0) = true
   ·
    refine qG _ hg5 ?_
    refine q1 _ ?_
    refine qG _ hg5 ?_
    refine q1 _ ?_
    refine qG _ hg5 ?_
    refine q1 _ ?_
    refine step (v := vb (a0.F == 0)) (st_pickT (b := ((a0.Kids.length : Int) == 0)) rfl hg5 rfl) ?_
    refine q1 _ ?_
    by_cases hg6 : (a0.F == 0) = true
    ·
     refine qG _ hg6 ?_
     refine q1 _ ?_
     refine qG _ hg6 ?_
     refine q1 _ ?_
     refine qG _ hg6 ?_
     refine q1 _ ?_
     refine step (v := vb (a0.N == 0)) (st_pickT (b := (a0.F == 0)) rfl hg6 rfl) ?_
     refine q1 _ ?_
     exact RunOps.nil' (nm [] ⟨.eq (by first | (simp [hg5, hg6]; done) | (simp_all; done) | grind), trivial⟩ trivial)
    ·
     iterate 3 refine qX _ hg6 ?_
     refine step (v := vb false) (st_pickF (b := (a0.F == 0)) rfl hg6 rfl) ?_
     refine q1 _ ?_
     exact RunOps.nil' (nm [] ⟨.eq (by first | (simp [hg5, hg6]; done) | (simp_all; done) | grind), trivial⟩ trivial)
   ·
    iterate 3 refine qX _ hg5 ?_
    refine step (v := vb false) (st_pickF (b := ((a0.Kids.length : Int) == 0)) rfl hg5 rfl) ?_
    refine q1 _ ?_
    iterate 3 refine qX false (by decide) ?_
    refine step (v := vb false) (st_pickF (b := false) rfl (by decide) rfl) ?_
    refine q1 _ ?_
    exact RunOps.nil' (nm [] ⟨.eq (by first | (simp [hg5]; done) | (simp_all; done) | grind), trivial⟩ trivial)
  have hh := Option.some.inj h
  subst hh
  refine NWp.ret ?_
  show FQ _ _ _ _
  exact FQ.mk1 (.inr rfl) (res_t (v := vb (((a0.Kids.length : Int) == 0) && ((a0.F == 0) && (a0.N == 0)))) rfl rfl) (RV.d trivial)
 ·
  replace h := iteF hc4 h
  refine NWp.condF (t := y2) rfl hc4 ?_
  refine NWp.opsJ ⟨tab [(1, vi a1), (2, vp1 a0), (5, vi (a0.Kids.length : Int)), (11, vi a0.Op), (27, vb (a0.Op == 2))], stab [], 0⟩ ?_ ?_
  ·
   iterate 2 refine q1 _ ?_
   exact nR []
  by_cases hc7 : (a0.Op == 2) = true
  ·
   replace h := iteT hc7 h
   refine NWp.condT (t := (a0.Op == 2)) rfl hc7 ?_
   refine NWp.opsJ ⟨tab [(4, vb (((a0.Kids.length : Int) == 0) && ((decide (a0.F ≥ 0)) && (decide (a0.F < 8)))))], stab [], 0⟩ ?_ ?_
   ·
    iterate 3 refine q1 _ ?_
    by_cases hg8 : ((a0.Kids.length : Int) == 0) = true
    ·
     refine qG _ hg8 ?_
     refine q1 _ ?_
     refine qG _ hg8 ?_
     refine q1 _ ?_
     refine qG _ hg8 ?_
     refine q1 _ ?_
     refine step (v := vb (decide (a0.F ≥ 0))) (st_pickT (b := ((a0.Kids.length : Int) == 0)) rfl hg8 rfl) ?_
     refine q1 _ ?_
     by_cases hg9 : decide (a0.F ≥ 0) = true
     ·
      refine qG _ hg9 ?_
      refine q1 _ ?_
      refine qG _ hg9 ?_
      refine q1 _ ?_
      refine qG _ hg9 ?_
      refine q1 _ ?_
      refine step (v := vb (decide (a0.F < 8))) (st_pickT (b := decide (a0.F ≥ 0)) rfl hg9 rfl) ?_
      refine q1 _ ?_
      exact RunOps.nil' (nm [] ⟨.eq (by first | (simp [hg8, hg9]; done) | (simp_all; done) | grind), trivial⟩ trivial)
     ·
      iterate 3 refine qX _ hg9 ?_
      refine step (v := vb false) (st_pickF (b := decide (a0.F ≥ 0)) rfl hg9 rfl) ?_
      refine q1 _ ?_
      exact RunOps.nil' (nm [] ⟨.eq (by first | (simp [hg8, hg9]; done) | (simp_all; done) | grind), trivial⟩ trivial)
    ·
     iterate 3 refine qX _ hg8 ?_
     refine step (v := vb false) (st_pickF (b := ((a0.Kids.length : Int) == 0)) rfl hg8 rfl) ?_
     refine q1 _ ?_
     iterate 3 refine qX false (by decide) ?_
     refine step (v := vb false) (st_pickF (b := false) rfl (by decide) rfl) ?_
     refine q1 _ ?_
     exact RunOps.nil' (nm [] ⟨.eq (by first | (simp [hg8]; done) | (simp_all; done) | grind), trivial⟩ trivial)
   have hh := Option.some.inj h
   subst hh
   refine NWp.ret ?_
   show FQ _ _ _ _
   exact FQ.mk1 (.inr rfl) (res_t (v := vb (((a0.Kids.length : Int) == 0) && ((decide (a0.F ≥ 0)) && (decide (a0.F < 8))))) rfl rfl) (RV.d trivial)
  ·
   replace h := iteF hc7 h
   refine NWp.condF (t := (a0.Op == 2)) rfl hc7 ?_
   refine NWp.opsJ ⟨tab [(1, vi a1), (2, vp1 a0), (5, vi (a0.Kids.length : Int)), (11, vi a0.Op), (41, vb (a0.Op == 3))], stab [], 0⟩ ?_ ?_
   ·
    iterate 2 refine q1 _ ?_
    exact nR []
   by_cases hc10 : (a0.Op == 3) = true
   ·
    replace h := iteT hc10 h
    refine NWp.condT (t := (a0.Op == 3)) rfl hc10 ?_
    refine NWp.opsJ ⟨tab [(4, vb (((a0.Kids.length : Int) == 0) && ((decide (a0.F ≥ 0)) && (decide (a0.F < a1)))))], stab [], 0⟩ ?_ ?_
    ·
     iterate 3 refine q1 _ ?_
     by_cases hg11 : ((a0.Kids.length : Int) == 0) = true
     ·
      refine qG _ hg11 ?_
      refine q1 _ ?_
      refine qG _ hg11 ?_
      refine q1 _ ?_
      refine qG _ hg11 ?_
      refine q1 _ ?_
      refine step (v := vb (decide (a0.F ≥ 0))) (st_pickT (b := ((a0.Kids.length : Int) == 0)) rfl hg11 rfl) ?_
      refine q1 _ ?_
      by_cases hg12 : decide (a0.F ≥ 0) = true
      ·
       refine qG _ hg12 ?_
       refine q1 _ ?_
       refine qG _ hg12 ?_
       refine q1 _ ?_
       refine qG _ hg12 ?_
       refine q1 _ ?_
       refine qG _ hg12 ?_
       refine q1 _ ?_
       refine step (v := vb (decide (a0.F < a1))) (st_pickT (b := decide (a0.F ≥ 0)) rfl hg12 rfl) ?_
       refine q1 _ ?_
       exact RunOps.nil' (nm [] ⟨.eq (by first | (simp [hg11, hg12]; done) | (simp_all; done) | grind), trivial⟩ trivial)
      ·
       iterate 4 refine qX _ hg12 ?_
       refine step (v := vb false) (st_pickF (b := decide (a0.F ≥ 0)) rfl hg12 rfl) ?_
       refine q1 _ ?_
       exact RunOps.nil' (nm [] ⟨.eq (by first | (simp [hg11, hg12]; done) | (simp_all; done) | grind), trivial⟩ trivial)
     ·
      iterate 3 refine qX _ hg11 ?_
      refine step (v := vb false) (st_pickF (b := ((a0.Kids.length : Int) == 0)) rfl hg11 rfl) ?_
      refine q1 _ ?_
      iterate 4 refine qX false (by decide) ?_
      refine step (v := vb false) (st_pickF (b := false) rfl (by decide) rfl) ?_
      refine q1 _ ?_
      exact RunOps.nil' (nm [] ⟨.eq (by first | (simp [hg11]; done) | (simp_all; done) | grind), trivial⟩ trivial)
    have hh := Option.some.inj h
    subst hh
    refine NWp.ret ?_
    show FQ _ _ _ _
    exact FQ.mk1 (.inr rfl) (res_t (v := vb (((a0.Kids.length : Int) == 0) && ((decide (a0.F ≥ 0)) && (decide (a0.F < a1))))) rfl rfl) (RV.d trivial)
   ·
    replace h := iteF hc10 h
    refine NWp.condF (t := (a0.Op == 3)) rfl hc10 ?_
    refine NWp.opsJ ⟨tab [(1, vi a1), (2, vp1 a0), (5, vi (a0.Kids.length : Int)), (11, vi a0.Op), (56, vb (a0.Op == 5))], stab [], 0⟩ ?_ ?_
    ·
     iterate 2 refine q1 _ ?_
     exact nR []
    by_cases hc13 : (a0.Op == 5) = true
    ·
     replace h := iteT hc13 h
     refine NWp.condT (t := (a0.Op == 5)) rfl hc13 ?_
     refine NWp.opsJ ⟨tab [(4, vb (((a0.Kids.length : Int) == 0) && ((decide (a0.F ≥ 1)) && (decide (a0.F < 8)))))], stab [], 0⟩ ?_ ?_
     ·
      iterate 3 refine q1 _ ?_
      by_cases hg14 : ((a0.Kids.length : Int) == 0) = true
      ·
       refine qG _ hg14 ?_
       refine q1 _ ?_
       refine qG _ hg14 ?_
       refine q1 _ ?_
       refine qG _ hg14 ?_
       refine q1 _ ?_
       refine step (v := vb (decide (a0.F ≥ 1))) (st_pickT (b := ((a0.Kids.length : Int) == 0)) rfl hg14 rfl) ?_
       refine q1 _ ?_
       by_cases hg15 : decide (a0.F ≥ 1) = true
       ·
        refine qG _ hg15 ?_
        refine q1 _ ?_
        refine qG _ hg15 ?_
        refine q1 _ ?_
        refine qG _ hg15 ?_
        refine q1 _ ?_
        refine step (v := vb (decide (a0.F < 8))) (st_pickT (b := decide (a0.F ≥ 1)) rfl hg15 rfl) ?_
        refine q1 _ ?_
        exact RunOps.nil' (nm [] ⟨.eq (by first | (simp [hg14, hg15]; done) | (simp_all; done) | grind), trivial⟩ trivial)
       ·
        iterate 3 refine qX _ hg15 ?_
        refine step (v := vb false) (st_pickF (b := decide (a0.F ≥ 1)) rfl hg15 rfl) ?_
        refine q1 _ ?_
        exact RunOps.nil' (nm [] ⟨.eq (by first | (simp [hg14, hg15]; done) | (simp_all; done) | grind), trivial⟩ trivial)
      ·
       iterate 3 refine qX _ hg14 ?_
       refine step (v := vb false) (st_pickF (b := ((a0.Kids.length : Int) == 0)) rfl hg14 rfl) ?_
       refine q1 _ ?_
       iterate 3 refine qX false (by decide) ?_
       refine step (v := vb false) (st_pickF (b := false) rfl (by decide) rfl) ?_
       refine q1 _ ?_
       exact RunOps.nil' (nm [] ⟨.eq (by first | (simp [hg14]; done) | (simp_all; done) | grind), trivial⟩ trivial)
     have hh := Option.some.inj h
     subst hh
     refine NWp.ret ?_
     show FQ _ _ _ _
     exact FQ.mk1 (.inr rfl) (res_t (v := vb (((a0.Kids.length : Int) == 0) && ((decide (a0.F ≥ 1)) && (decide (a0.F < 8))))) rfl rfl) (RV.d trivial)
    ·
     replace h := iteF hc13 h
     refine NWp.condF (t := (a0.Op == 5)) rfl hc13 ?_
     refine NWp.opsJ ⟨tab [(1, vi a1), (2, vp1 a0), (5, vi (a0.Kids.length : Int)), (11, vi a0.Op), (70, vb (a0.Op == 4))], stab [], 0⟩ ?_ ?_
     ·
      iterate 2 refine q1 _ ?_
      exact nR []
     by_cases hc16 : (a0.Op == 4) = true
     ·
      replace h := iteT hc16 h
      refine NWp.condT (t := (a0.Op == 4)) rfl hc16 ?_
      obtain ⟨y24, hv, h⟩ := bindE h
      refine NWp.opsJ ⟨tab [(4, vb y24)], stab [], 0⟩ ?_ ?_
      ·
       iterate 3 refine q1 _ ?_
       by_cases hg17 : ((a0.Kids.length : Int) == 1) = true
       ·
        replace hv := iteT hg17 hv
        refine qG _ hg17 ?_
        refine q1 _ ?_
        refine qG _ hg17 ?_
        refine q1 _ ?_
        refine qG _ hg17 ?_
        refine q1 _ ?_
        refine step (v := vb (a0.F == 0)) (st_pickT (b := ((a0.Kids.length : Int) == 1)) rfl hg17 rfl) ?_
        refine q1 _ ?_
        by_cases hg18 : (a0.F == 0) = true
        ·
         replace hv := iteT hg18 hv
         refine qG _ hg18 ?_
         refine q1 _ ?_
         refine qG _ hg18 ?_
         refine q1 _ ?_
         refine qG _ hg18 ?_
         refine q1 _ ?_
         refine step (v := vb (a0.N == 0)) (st_pickT (b := (a0.F == 0)) rfl hg18 rfl) ?_
         refine q1 _ ?_
         by_cases hg19 : (a0.N == 0) = true
         ·
          replace hv := iteT hg19 hv
          obtain ⟨x20, hx20, hv⟩ := bindE hv
          obtain ⟨r21, hr21, hv⟩ := bindE hv
          refine qG _ hg19 ?_
          refine q1 _ ?_
          refine qG _ hg19 ?_
          refine q1 _ ?_
          refine qG _ hg19 ?_
          refine step (v := vp1 x20) (st_iaddrU (xs := a0.Kids) (e := eapi_Pol) hx20 rfl rfl (eu_api_Pol _)) ?_
          refine qG _ hg19 ?_
          refine q1 _ ?_
          refine qG _ hg19 ?_
          refine stepC (r := .bool r21) (ArgsOk.dt ArgsOk.nil') (c_ref05_Predicate hr21) ?_
          refine step (v := vb r21) (st_pickT (b := (a0.N == 0)) rfl hg19 rfl) ?_
          refine q1 _ ?_
          by_cases hg22 : r21 = true
          ·
           replace hv := iteT hg22 hv
           obtain ⟨r23, hr23, hv⟩ := bindE hv
           refine qG _ hg22 ?_
           refine q1 _ ?_
           refine qG _ hg22 ?_
           refine q1 _ ?_
           refine qG _ hg22 ?_
           refine step (v := vp1 x20) (st_iaddrU (xs := a0.Kids) (e := eapi_Pol) hx20 rfl rfl (eu_api_Pol _)) ?_
           refine qG _ hg22 ?_
           refine q1 _ ?_
           refine qG _ hg22 ?_
           refine q1 _ ?_
           refine qG _ hg22 ?_
           refine stepC (r := .bool r23) (ArgsOk.dt (ArgsOk.dt ArgsOk.nil')) (hself _ _ _ hr23) ?_
           refine step (v := vb r23) (st_pickT (b := r21) rfl hg22 rfl) ?_
           refine q1 _ ?_
           have hh := Option.some.inj hv
           subst hh
           exact nR []
          ·
           replace hv := iteF hg22 hv
           iterate 6 refine qX _ hg22 ?_
           refine step (v := vb false) (st_pickF (b := r21) rfl hg22 rfl) ?_
           refine q1 _ ?_
           have hh := Option.some.inj hv
           subst hh
           exact nR []
         ·
          replace hv := iteF hg19 hv
          iterate 5 refine qX _ hg19 ?_
          refine step (v := vb false) (st_pickF (b := (a0.N == 0)) rfl hg19 rfl) ?_
          refine q1 _ ?_
          iterate 6 refine qX false (by decide) ?_
          refine step (v := vb false) (st_pickF (b := false) rfl (by decide) rfl) ?_
          refine q1 _ ?_
          have hh := Option.some.inj hv
          subst hh
          exact nR []
        ·
         replace hv := iteF hg18 hv
         iterate 3 refine qX _ hg18 ?_
         refine step (v := vb false) (st_pickF (b := (a0.F == 0)) rfl hg18 rfl) ?_
         refine q1 _ ?_
         iterate 5 refine qX false (by decide) ?_
         refine step (v := vb false) (st_pickF (b := false) rfl (by decide) rfl) ?_
         refine q1 _ ?_
         iterate 6 refine qX false (by decide) ?_
         refine step (v := vb false) (st_pickF (b := false) rfl (by decide) rfl) ?_
         refine q1 _ ?_
         have hh := Option.some.inj hv
         subst hh
         exact nR []
       ·
        replace hv := iteF hg17 hv
        iterate 3 refine qX _ hg17 ?_
        refine step (v := vb false) (st_pickF (b := ((a0.Kids.length : Int) == 1)) rfl hg17 rfl) ?_
        refine q1 _ ?_
        iterate 3 refine qX false (by decide) ?_
        refine step (v := vb false) (st_pickF (b := false) rfl (by decide) rfl) ?_
        refine q1 _ ?_
        iterate 5 refine qX false (by decide) ?_
        refine step (v := vb false) (st_pickF (b := false) rfl (by decide) rfl) ?_
        refine q1 _ ?_
        iterate 6 refine qX false (by decide) ?_
        refine step (v := vb false) (st_pickF (b := false) rfl (by decide) rfl) ?_
        refine q1 _ ?_
        have hh := Option.some.inj hv
        subst hh
        exact nR []
      have hh := Option.some.inj h
      subst hh
      refine NWp.ret ?_
      show FQ _ _ _ _
      exact FQ.mk1 (.inr rfl) (res_t (v := vb y24) rfl rfl) (RV.d trivial)
     ·
      replace h := iteF hc16 h
      refine NWp.condF (t := (a0.Op == 4)) rfl hc16 ?_
      obtain ⟨y27, hv, h⟩ := bindE h
      refine NWp.seqN ⟨tab [(1, vi a1), (2, vp1 a0), (5, vi (a0.Kids.length : Int)), (99, vb y27)], stab [], 0⟩ ?_ ?_
      ·
       replace h := hv
       refine NWp.opsJ ⟨tab [(1, vi a1), (2, vp1 a0), (5, vi (a0.Kids.length : Int)), (11, vi a0.Op), (99, vb (a0.Op == 6))], stab [], 0⟩ ?_ ?_
       ·
        iterate 2 refine q1 _ ?_
        exact nR []
       by_cases hc26 : (a0.Op == 6) = true
       ·
        replace h := iteT hc26 h
        refine NWp.condT (t := (a0.Op == 6)) rfl hc26 ?_
        have hh := Option.some.inj h
        subst hh
        refine NWp.norm (s0 := ⟨tab [(1, vi a1), (2, vp1 a0), (5, vi (a0.Kids.length : Int)), (99, vb (a0.Op == 6))], stab [], 0⟩) (nr []) ?_
        refine NWp.skip ?_
        exact And.intro rfl rfl
       ·
        replace h := iteF hc26 h
        refine NWp.condF (t := (a0.Op == 6)) rfl hc26 ?_
        have hh := Option.some.inj h
        subst hh
        refine NWp.opsE ⟨tab [(1, vi a1), (2, vp1 a0), (5, vi (a0.Kids.length : Int)), (99, vb (a0.Op == 7))], stab [], 0⟩ ?_ ?_
        ·
         iterate 2 refine q1 _ ?_
         exact nR []
        exact And.intro rfl rfl
      by_cases hc29 : y27 = true
      ·
       replace h := iteT hc29 h
       refine NWp.condT (t := y27) rfl hc29 ?_
       refine NWp.seq ?_
       refine NWp.opsJ ⟨tab [(1, vi a1), (2, vp1 a0), (5, vi (a0.Kids.length : Int)), (113, vb ((decide ((a0.Kids.length : Int) < 2)) || ((a0.F != 0) || (a0.N != 0))))], stab [], 0⟩ ?_ ?_
       ·
        iterate 3 refine q1 _ ?_
        by_cases hg30 : decide ((a0.Kids.length : Int) < 2) = true
        ·
         iterate 3 refine qX (decide ((a0.Kids.length : Int) < 2)) (by rw [hg30]; decide) ?_
         refine step (v := vb true) (st_pickT (b := decide ((a0.Kids.length : Int) < 2)) rfl hg30 rfl) ?_
         refine q1 _ ?_
         iterate 3 refine qX true (by decide) ?_
         refine step (v := vb true) (st_pickT (b := true) rfl rfl rfl) ?_
         exact RunOps.nil' (nm [] ⟨.d _, .d _, .d _, .eq (by first | (simp [hg30]; done) | (simp_all; done) | grind), trivial⟩ trivial)
        ·
         refine qG (decide ((a0.Kids.length : Int) < 2)) (Bool.eq_false_iff.2 hg30) ?_
         refine q1 _ ?_
         refine qG (decide ((a0.Kids.length : Int) < 2)) (Bool.eq_false_iff.2 hg30) ?_
         refine q1 _ ?_
         refine qG (decide ((a0.Kids.length : Int) < 2)) (Bool.eq_false_iff.2 hg30) ?_
         refine q1 _ ?_
         refine step (v := vb (a0.F != 0)) (st_pickF (b := decide ((a0.Kids.length : Int) < 2)) rfl hg30 rfl) ?_
         refine q1 _ ?_
         by_cases hg31 : (a0.F != 0) = true
         ·
          iterate 3 refine qX (a0.F != 0) (by rw [hg31]; decide) ?_
          refine step (v := vb true) (st_pickT (b := (a0.F != 0)) rfl hg31 rfl) ?_
          exact RunOps.nil' (nm [] ⟨.d _, .d _, .d _, .eq (by first | (simp [hg30, hg31]; done) | (simp_all; done) | grind), trivial⟩ trivial)
         ·
          refine qG (a0.F != 0) (Bool.eq_false_iff.2 hg31) ?_
          refine q1 _ ?_
          refine qG (a0.F != 0) (Bool.eq_false_iff.2 hg31) ?_
          refine q1 _ ?_
          refine qG (a0.F != 0) (Bool.eq_false_iff.2 hg31) ?_
          refine q1 _ ?_
          refine step (v := vb (a0.N != 0)) (st_pickF (b := (a0.F != 0)) rfl hg31 rfl) ?_
          exact RunOps.nil' (nm [] ⟨.d _, .d _, .d _, .eq (by first | (simp [hg30, hg31]; done) | (simp_all; done) | grind), trivial⟩ trivial)
       by_cases hc32 : ((decide ((a0.Kids.length : Int) < 2)) || ((a0.F != 0) || (a0.N != 0))) = true
       ·
        replace h := iteT hc32 h
        refine NWp.condT (t := ((decide ((a0.Kids.length : Int) < 2)) || ((a0.F != 0) || (a0.N != 0)))) rfl hc32 ?_
        refine NWp.opsJ ⟨tab [(4, vb false)], stab [], 0⟩ ?_ ?_
        ·
         refine q1 _ ?_
         exact nR []
        have hh := Option.some.inj h
        subst hh
        refine NWp.ret ?_
        show FQ _ _ _ _
        exact FQ.mk1 (.inr rfl) (res_t (v := vb false) rfl rfl) (RV.d trivial)
       ·
        replace h := iteF hc32 h
        refine NWp.condF (t := ((decide ((a0.Kids.length : Int) < 2)) || ((a0.F != 0) || (a0.N != 0)))) rfl hc32 ?_
        refine NWp.skip ?_
        refine NWp.seq ?_
        refine NWp.opsJ ⟨tab [(1, vi a1), (2, vp1 a0), (5, vi (a0.Kids.length : Int)), (6, vi 0)], stab [], 0⟩ ?_ ?_
        ·
         refine q1 _ ?_
         exact nR []
        obtain ⟨q42, hl, h⟩ := bindE h
        refine NWp.block ?_
        refine loop_forR (cntU (a0.Kids.length : Int)) (fun (i33 : Int) (qq : Unit) => ⟨tab [(1, vi a1), (2, vp1 a0), (5, vi (a0.Kids.length : Int)), (6, vi i33)], stab [], 0⟩) 1 (fun (qq : Unit) => ⟨tab [], stab [], 0⟩) Low low_step (r := r) hl (by unfold Low; omega) ?_ ?_ ?_ ?_
        ·
         rintro i33 ⟨⟩ xr38 hinv36 hgo35 h
         show NWp _ _ _ _ _ ⟨tab [(1, vi a1), (2, vp1 a0), (5, vi (a0.Kids.length : Int)), (6, vi i33)], stab [], 0⟩
         have hc37 : decide (i33 < (a0.Kids.length : Int)) = true := decide_eq_true hgo35
         refine NWp.seq ?_
         refine NWp.opsJ ⟨tab [(1, vi a1), (2, vp1 a0), (5, vi (a0.Kids.length : Int)), (6, vi i33), (115, vi (a0.Kids.length : Int)), (116, vb (decide (i33 < (a0.Kids.length : Int))))], stab [], 0⟩ ?_ ?_
         ·
          iterate 3 refine q1 _ ?_
          exact nR []
         refine NWp.rng 115 rfl fun hB34 => ?_
         refine NWp.condT (t := decide (i33 < (a0.Kids.length : Int))) rfl hc37 ?_
         refine NWp.skip ?_
         refine NWp.seq ?_
         refine NWp.block ?_
         obtain ⟨x39, hx39, h⟩ := bindE h
         obtain ⟨r40, hr40, h⟩ := bindE h
         refine NWp.opsJ ⟨tab [(1, vi a1), (2, vp1 a0), (5, vi (a0.Kids.length : Int)), (6, vi i33), (126, vb (!r40))], stab [], 0⟩ ?_ ?_
         ·
          iterate 3 refine q1 _ ?_
          refine step (v := vp1 x39) (st_iaddrU (xs := a0.Kids) (e := eapi_Pol) hx39 rfl rfl (eu_api_Pol _)) ?_
          iterate 2 refine q1 _ ?_
          refine stepC (r := .bool r40) (ArgsOk.dt (ArgsOk.dt ArgsOk.nil')) (hself _ _ _ hr40) ?_
          refine q1 _ ?_
          exact nR []
         by_cases hc41 : (!r40) = true
         ·
          replace h := iteT hc41 h
          refine NWp.condT (t := (!r40)) rfl hc41 ?_
          refine NWp.opsJ ⟨tab [(4, vb false)], stab [], 0⟩ ?_ ?_
          ·
           refine q1 _ ?_
           exact nR []
          obtain ⟨r42, kr42, hr⟩ := mapE (o := some false) (g := Br.ret) h
          subst hr
          have h := kr42
          have hh := Option.some.inj h
          subst hh
          refine NWp.ret ?_
          refine And.intro (fun hn => nomatch hn) ?_
          intro hq
          have hq := hq.symm
          subst hq
          show FQ _ _ _ _
          exact FQ.mk1 (.inr rfl) (res_t (v := vb false) rfl rfl) (RV.d trivial)
         ·
          replace h := iteF hc41 h
          refine NWp.condF (t := (!r40)) rfl hc41 ?_
          refine NWp.skip ?_
          have hh := Option.some.inj h
          subst hh
          refine NWp.opsE ⟨tab [(1, vi a1), (2, vp1 a0), (5, vi (a0.Kids.length : Int)), (6, vi (i33 + 1))], stab [], 0⟩ ?_ ?_
          ·
           refine q1 _ ?_
           refine step (v := vi (i33 + 1)) (st_inc (inc_ok hinv36 hgo35 hB34) rfl rfl) ?_
           refine q1 _ ?_
           exact nR []
          exact And.intro rfl rfl
        ·
         rintro i33 ⟨⟩ hinv36 hgo35
         show NWp _ _ _ _ _ ⟨tab [(1, vi a1), (2, vp1 a0), (5, vi (a0.Kids.length : Int)), (6, vi i33)], stab [], 0⟩
         have hc37 : ¬ (decide (i33 < (a0.Kids.length : Int)) = true) := fun hq => hgo35 (of_decide_eq_true hq)
         refine NWp.seq ?_
         refine NWp.opsJ ⟨tab [(1, vi a1), (2, vp1 a0), (5, vi (a0.Kids.length : Int)), (6, vi i33), (116, vb (decide (i33 < (a0.Kids.length : Int))))], stab [], 0⟩ ?_ ?_
         ·
          iterate 3 refine q1 _ ?_
          exact nR []
         refine NWp.condF (t := decide (i33 < (a0.Kids.length : Int))) rfl hc37 ?_
         refine NWp.norm (s0 := ⟨tab [], stab [], 0⟩) (nr []) ?_
         refine NWp.exit ?_
         exact And.intro rfl rfl
        ·
         intro r' hq
         subst hq
         exact Option.some.inj h
        rintro ⟨⟩ rfl
        refine NWp.opsJ ⟨tab [(4, vb true)], stab [], 0⟩ ?_ ?_
        ·
         refine q1 _ ?_
         exact nR []
        have hh := Option.some.inj h
        subst hh
        refine NWp.ret ?_
        show FQ _ _ _ _
        exact FQ.mk1 (.inr rfl) (res_t (v := vb true) rfl rfl) (RV.d trivial)
      ·
       replace h := iteF hc29 h
       refine NWp.condF (t := y27) rfl hc29 ?_
       refine NWp.skip ?_
       refine NWp.opsJ ⟨tab [(4, vb false)], stab [], 0⟩ ?_ ?_
       ·
        refine q1 _ ?_
        exact nR []
       have hh := Option.some.inj h
       subst hh
       refine NWp.ret ?_
       show FQ _ _ _ _
       exact FQ.mk1 (.inr rfl) (res_t (v := vb false) rfl rfl) (RV.d trivial)

theorem c_ref05_formed_f : ∀ (k : Nat) (a0 : api_Pol) (a1 : Int) (r : Bool), ref05_formed_f k a0 a1 = some r → PCall Try.prog 79 [uapi_Pol a0, .int .i64 a1] (.bool r)
 | 0, _, _, _, h => by cases h
 | k + 1, _, _, _, h => c_ref05_formed_s (c_ref05_formed_f k) h

theorem c_ref05_formed {a0 : api_Pol} {a1 : Int} {r : Bool} (h : ref05_formed a0 a1 = some r) : PCall Try.prog 79 [uapi_Pol a0, .int .i64 a1] (.bool r) := c_ref05_formed_f FUEL _ _ _ h

theorem c_ref05_rising {a0 : (List api_Pair)} {a1 : Int} {r : Bool} (h : ref05_rising a0 a1 = some r) : PCall Try.prog 80 [eL (some 2) eapi_Pair a0, .int .i64 a1] (.bool r) := by
 refine PCall.introN ok80 (show 2 ≤ 45 by decide) ?_
 refine NWp.norm (s0 := ⟨tab [(0, vl2 a0), (1, vi a1)], stab [], 0⟩) (nr []) ?_
 refine NWp.opsJ ⟨tab [(0, vl2 a0), (1, vi a1)], stab [], 0⟩ ?_ ?_
 ·
  refine q1 _ ?_
  exact nR []
 refine NWp.seq ?_
 refine NWp.opsJ ⟨tab [(0, vl2 a0), (1, vi a1), (5, vi 0)], stab [], 0⟩ ?_ ?_
 ·
  refine q1 _ ?_
  exact nR []
 obtain ⟨q15, hl, h⟩ := bindE h
 refine NWp.block ?_
 refine loop_forR (cntU (a0.length : Int)) (fun (i1 : Int) (qq : Unit) => ⟨tab [(0, vl2 a0), (1, vi a1), (5, vi i1)], stab [], 0⟩) 0 (fun (qq : Unit) => ⟨tab [], stab [], 0⟩) Low low_step (r := r) hl (by unfold Low; omega) ?_ ?_ ?_ ?_
 ·
  rintro i1 ⟨⟩ xr6 hinv4 hgo3 h
  show NWp _ _ _ _ _ ⟨tab [(0, vl2 a0), (1, vi a1), (5, vi i1)], stab [], 0⟩
  have hc5 : decide (i1 < (a0.length : Int)) = true := decide_eq_true hgo3
  refine NWp.seq ?_
  refine NWp.opsJ ⟨tab [(0, vl2 a0), (1, vi a1), (5, vi i1), (8, vi (a0.length : Int)), (9, vb (decide (i1 < (a0.length : Int))))], stab [], 0⟩ ?_ ?_
  ·
   iterate 2 refine q1 _ ?_
   refine step (v := vi (a0.length : Int)) (st_len (xs := a0) (e := eapi_Pair) rfl) ?_
   refine q1 _ ?_
   exact nR []
  refine NWp.rng 8 rfl fun hB2 => ?_
  refine NWp.condT (t := decide (i1 < (a0.length : Int))) rfl hc5 ?_
  refine NWp.skip ?_
  refine NWp.seq ?_
  refine NWp.block ?_
  obtain ⟨x7, hx7, h⟩ := bindE h
  obtain ⟨y12, hv, h⟩ := bindE h
  refine NWp.opsJ ⟨tab [(0, vl2 a0), (1, vi a1), (5, vi i1), (44, vb y12)], stab [], 0⟩ ?_ ?_
  ·
   iterate 2 refine q1 _ ?_
   refine step (v := vp4 x7) (st_iaddr (xs := a0) (e := eapi_Pair) hx7 rfl rfl) ?_
   iterate 4 refine q1 _ ?_
   by_cases hg8 : decide (x7.F < 0) = true
   ·
    replace hv := iteT hg8 hv
    iterate 7 refine qX (decide (x7.F < 0)) (by rw [hg8]; decide) ?_
    refine step (v := vb true) (st_pickT (b := decide (x7.F < 0)) rfl hg8 rfl) ?_
    refine q1 _ ?_
    iterate 3 refine qX true (by decide) ?_
    refine stepXX rfl ?_
    refine stepXX rfl ?_
    refine stepXX rfl ?_
    refine stepXX rfl ?_
    refine stepXX rfl ?_
    refine stepXX rfl ?_
    refine stepXX rfl ?_
    refine stepXX rfl ?_
    refine stepXX rfl ?_
    refine stepXX rfl ?_
    refine stepXX rfl ?_
    refine stepXX rfl ?_
    refine qX true (by decide) ?_
    refine step (v := vb true) (st_pickT (b := true) rfl rfl rfl) ?_
    have hh := Option.some.inj hv
    subst hh
    exact nR []
   ·
    replace hv := iteF hg8 hv
    refine qG (decide (x7.F < 0)) (Bool.eq_false_iff.2 hg8) ?_
    refine q1 _ ?_
    refine qG (decide (x7.F < 0)) (Bool.eq_false_iff.2 hg8) ?_
    refine q1 _ ?_
    refine qG (decide (x7.F < 0)) (Bool.eq_false_iff.2 hg8) ?_
    refine step (v := vp4 x7) (st_iaddr (xs := a0) (e := eapi_Pair) hx7 rfl rfl) ?_
    refine qG (decide (x7.F < 0)) (Bool.eq_false_iff.2 hg8) ?_
    refine q1 _ ?_
    refine qG (decide (x7.F < 0)) (Bool.eq_false_iff.2 hg8) ?_
    refine q1 _ ?_
    refine qG (decide (x7.F < 0)) (Bool.eq_false_iff.2 hg8) ?_
    refine q1 _ ?_
    refine qG (decide (x7.F < 0)) (Bool.eq_false_iff.2 hg8) ?_
    refine q1 _ ?_
    refine step (v := vb (decide (x7.F ≥ a1))) (st_pickF (b := decide (x7.F < 0)) rfl hg8 rfl) ?_
    refine q1 _ ?_
    by_cases hg9 : decide (x7.F ≥ a1) = true
    ·
     replace hv := iteT hg9 hv
     iterate 3 refine qX (decide (x7.F ≥ a1)) (by rw [hg9]; decide) ?_
     refine stepXX rfl ?_
     refine stepXX rfl ?_
     refine stepXX rfl ?_
     refine stepXX rfl ?_
     refine stepXX rfl ?_
     refine stepXX rfl ?_
     refine stepXX rfl ?_
     refine stepXX rfl ?_
     refine stepXX rfl ?_
     refine stepXX rfl ?_
     refine stepXX rfl ?_
     refine stepXX rfl ?_
     refine qX (decide (x7.F ≥ a1)) (by rw [hg9]; decide) ?_
     refine step (v := vb true) (st_pickT (b := decide (x7.F ≥ a1)) rfl hg9 rfl) ?_
     have hh := Option.some.inj hv
     subst hh
     exact nR []
    ·
     replace hv := iteF hg9 hv
     refine qG (decide (x7.F ≥ a1)) (Bool.eq_false_iff.2 hg9) ?_
     refine q1 _ ?_
     refine qG (decide (x7.F ≥ a1)) (Bool.eq_false_iff.2 hg9) ?_
     refine q1 _ ?_
     refine qG (decide (x7.F ≥ a1)) (Bool.eq_false_iff.2 hg9) ?_
     refine q1 _ ?_
     by_cases hg10 : decide (i1 > 0) = true
     ·
      replace hv := iteT hg10 hv
      obtain ⟨x11, hx11, hv⟩ := bindE hv
      refine qG _ hg10 ?_
      refine q1 _ ?_
      refine qG _ hg10 ?_
      refine q1 _ ?_
      refine qG _ hg10 ?_
      refine q1 _ ?_
      refine qG _ hg10 ?_
      refine step (v := vp4 x11) (st_iaddr (xs := a0) (e := eapi_Pair) hx11 rfl rfl) ?_
      refine qG _ hg10 ?_
      refine q1 _ ?_
      refine qG _ hg10 ?_
      refine q1 _ ?_
      refine qG _ hg10 ?_
      refine q1 _ ?_
      refine qG _ hg10 ?_
      refine q1 _ ?_
      refine qG _ hg10 ?_
      refine step (v := vp4 x7) (st_iaddr (xs := a0) (e := eapi_Pair) hx7 rfl rfl) ?_
      refine qG _ hg10 ?_
      refine q1 _ ?_
      refine qG _ hg10 ?_
      refine q1 _ ?_
      refine qG _ hg10 ?_
      refine q1 _ ?_
      refine qG (decide (x7.F ≥ a1)) (Bool.eq_false_iff.2 hg9) ?_
      refine step (v := vb (decide (x11.F ≥ x7.F))) (st_pickT (b := decide (i1 > 0)) rfl hg10 rfl) ?_
      refine step (v := vb (decide (x11.F ≥ x7.F))) (st_pickF (b := decide (x7.F ≥ a1)) rfl hg9 rfl) ?_
      have hh := Option.some.inj hv
      subst hh
      exact nR []
     ·
      replace hv := iteF hg10 hv
      iterate 12 refine qX _ hg10 ?_
      refine qG (decide (x7.F ≥ a1)) (Bool.eq_false_iff.2 hg9) ?_
      refine step (v := vb false) (st_pickF (b := decide (i1 > 0)) rfl hg10 rfl) ?_
      refine step (v := vb false) (st_pickF (b := decide (x7.F ≥ a1)) rfl hg9 rfl) ?_
      have hh := Option.some.inj hv
      subst hh
      exact nR []
  by_cases hc14 : y12 = true
  ·
   replace h := iteT hc14 h
   refine NWp.condT (t := y12) rfl hc14 ?_
   refine NWp.opsJ ⟨tab [(4, vb false)], stab [], 0⟩ ?_ ?_
   ·
    refine q1 _ ?_
    exact nR []
   obtain ⟨r15, kr15, hr⟩ := mapE (o := some false) (g := Br.ret) h
   subst hr
   have h := kr15
   have hh := Option.some.inj h
   subst hh
   refine NWp.ret ?_
   refine And.intro (fun hn => nomatch hn) ?_
   intro hq
   have hq := hq.symm
   subst hq
   show FQ _ _ _ _
   exact FQ.mk1 (.inr rfl) (res_t (v := vb false) rfl rfl) (RV.d trivial)
  ·
   replace h := iteF hc14 h
   refine NWp.condF (t := y12) rfl hc14 ?_
   refine NWp.skip ?_
   have hh := Option.some.inj h
   subst hh
   refine NWp.opsE ⟨tab [(0, vl2 a0), (1, vi a1), (5, vi (i1 + 1))], stab [], 0⟩ ?_ ?_
   ·
    refine q1 _ ?_
    refine step (v := vi (i1 + 1)) (st_inc (inc_ok hinv4 hgo3 hB2) rfl rfl) ?_
    refine q1 _ ?_
    exact nR []
   exact And.intro rfl rfl
 ·
  rintro i1 ⟨⟩ hinv4 hgo3
  show NWp _ _ _ _ _ ⟨tab [(0, vl2 a0), (1, vi a1), (5, vi i1)], stab [], 0⟩
  have hc5 : ¬ (decide (i1 < (a0.length : Int)) = true) := fun hq => hgo3 (of_decide_eq_true hq)
  refine NWp.seq ?_
  refine NWp.opsJ ⟨tab [(0, vl2 a0), (1, vi a1), (5, vi i1), (9, vb (decide (i1 < (a0.length : Int))))], stab [], 0⟩ ?_ ?_
  ·
   iterate 2 refine q1 _ ?_
   refine step (v := vi (a0.length : Int)) (st_len (xs := a0) (e := eapi_Pair) rfl) ?_
   refine q1 _ ?_
   exact nR []
  refine NWp.condF (t := decide (i1 < (a0.length : Int))) rfl hc5 ?_
  refine NWp.norm (s0 := ⟨tab [], stab [], 0⟩) (nr []) ?_
  refine NWp.exit ?_
  exact And.intro rfl rfl
 ·
  intro r' hq
  subst hq
  exact Option.some.inj h
 rintro ⟨⟩ rfl
 refine NWp.opsJ ⟨tab [(4, vb true)], stab [], 0⟩ ?_ ?_
 ·
  refine q1 _ ?_
  exact nR []
 have hh := Option.some.inj h
 subst hh
 refine NWp.ret ?_
 show FQ _ _ _ _
 exact FQ.mk1 (.inr rfl) (res_t (v := vb true) rfl rfl) (RV.d trivial)

theorem c_ref05_Check {a0 : api_Program} {r : Int} (h : ref05_Check a0 = some r) : PCall Try.prog 51 [eapi_Program a0] (.int .i64 r) := by
 refine PCall.introN ok51 (show 1 ≤ 102 by decide) ?_
 refine NWp.norm (s0 := ⟨tab [(0, vs3 a0)], stab [], 0⟩) (nr []) ?_
 refine NWp.opsJ ⟨tab [(1, vp2 a0)], stab [], 0⟩ ?_ ?_
 ·
  iterate 2 refine q1 _ ?_
  exact nR []
 refine NWp.seq ?_
 obtain ⟨y7, hv, h⟩ := bindE h
 refine NWp.opsJ ⟨tab [(1, vp2 a0), (32, vb y7)], stab [], 0⟩ ?_ ?_
 ·
  iterate 2 refine q1 _ ?_
  refine step (v := vi (a0.Init.length : Int)) (st_len (xs := a0.Init) (e := (D.int .u16)) rfl) ?_
  iterate 2 refine q1 _ ?_
  by_cases hg1 : decide ((a0.Init.length : Int) < 1) = true
  ·
   replace hv := iteT hg1 hv
   iterate 4 refine qX (decide ((a0.Init.length : Int) < 1)) (by rw [hg1]; decide) ?_
   refine step (v := vb true) (st_pickT (b := decide ((a0.Init.length : Int) < 1)) rfl hg1 rfl) ?_
   refine q1 _ ?_
   iterate 4 refine qX true (by decide) ?_
   refine step (v := vb true) (st_pickT (b := true) rfl rfl rfl) ?_
   refine q1 _ ?_
   iterate 4 refine qX true (by decide) ?_
   refine step (v := vb true) (st_pickT (b := true) rfl rfl rfl) ?_
   refine q1 _ ?_
   iterate 4 refine qX true (by decide) ?_
   refine step (v := vb true) (st_pickT (b := true) rfl rfl rfl) ?_
   have hh := Option.some.inj hv
   subst hh
   exact nR []
  ·
   replace hv := iteF hg1 hv
   refine qG (decide ((a0.Init.length : Int) < 1)) (Bool.eq_false_iff.2 hg1) ?_
   refine q1 _ ?_
   refine qG (decide ((a0.Init.length : Int) < 1)) (Bool.eq_false_iff.2 hg1) ?_
   refine q1 _ ?_
   refine qG (decide ((a0.Init.length : Int) < 1)) (Bool.eq_false_iff.2 hg1) ?_
   refine step (v := vi (a0.Init.length : Int)) (st_len (xs := a0.Init) (e := (D.int .u16)) rfl) ?_
   refine qG (decide ((a0.Init.length : Int) < 1)) (Bool.eq_false_iff.2 hg1) ?_
   refine q1 _ ?_
   refine step (v := vb (decide ((a0.Init.length : Int) > 4))) (st_pickF (b := decide ((a0.Init.length : Int) < 1)) rfl hg1 rfl) ?_
   refine q1 _ ?_
   by_cases hg2 : decide ((a0.Init.length : Int) > 4) = true
   ·
    replace hv := iteT hg2 hv
    iterate 4 refine qX (decide ((a0.Init.length : Int) > 4)) (by rw [hg2]; decide) ?_
    refine step (v := vb true) (st_pickT (b := decide ((a0.Init.length : Int) > 4)) rfl hg2 rfl) ?_
    refine q1 _ ?_
    iterate 4 refine qX true (by decide) ?_
    refine step (v := vb true) (st_pickT (b := true) rfl rfl rfl) ?_
    refine q1 _ ?_
    iterate 4 refine qX true (by decide) ?_
    refine step (v := vb true) (st_pickT (b := true) rfl rfl rfl) ?_
    have hh := Option.some.inj hv
    subst hh
    exact nR []
   ·
    replace hv := iteF hg2 hv
    obtain ⟨r3, hr3, hv⟩ := bindE hv
    refine qG (decide ((a0.Init.length : Int) > 4)) (Bool.eq_false_iff.2 hg2) ?_
    refine q1 _ ?_
    refine qG (decide ((a0.Init.length : Int) > 4)) (Bool.eq_false_iff.2 hg2) ?_
    refine q1 _ ?_
    refine qG (decide ((a0.Init.length : Int) > 4)) (Bool.eq_false_iff.2 hg2) ?_
    refine stepC (r := .int .i64 r3) (ArgsOk.dt ArgsOk.nil') (c_ref05_Size hr3) ?_
    refine qG (decide ((a0.Init.length : Int) > 4)) (Bool.eq_false_iff.2 hg2) ?_
    refine q1 _ ?_
    refine step (v := vb (decide (r3 > 300))) (st_pickF (b := decide ((a0.Init.length : Int) > 4)) rfl hg2 rfl) ?_
    refine q1 _ ?_
    by_cases hg4 : decide (r3 > 300) = true
    ·
     replace hv := iteT hg4 hv
     iterate 4 refine qX (decide (r3 > 300)) (by rw [hg4]; decide) ?_
     refine step (v := vb true) (st_pickT (b := decide (r3 > 300)) rfl hg4 rfl) ?_
     refine q1 _ ?_
     iterate 4 refine qX true (by decide) ?_
     refine step (v := vb true) (st_pickT (b := true) rfl rfl rfl) ?_
     have hh := Option.some.inj hv
     subst hh
     exact nR []
    ·
     replace hv := iteF hg4 hv
     obtain ⟨r5, hr5, hv⟩ := bindE hv
     refine qG (decide (r3 > 300)) (Bool.eq_false_iff.2 hg4) ?_
     refine q1 _ ?_
     refine qG (decide (r3 > 300)) (Bool.eq_false_iff.2 hg4) ?_
     refine q1 _ ?_
     refine qG (decide (r3 > 300)) (Bool.eq_false_iff.2 hg4) ?_
     refine stepC (r := .int .i64 r5) (ArgsOk.dt ArgsOk.nil') (c_ref05_Depth hr5) ?_
     refine qG (decide (r3 > 300)) (Bool.eq_false_iff.2 hg4) ?_
     refine q1 _ ?_
     refine step (v := vb (decide (r5 > 20))) (st_pickF (b := decide (r3 > 300)) rfl hg4 rfl) ?_
     refine q1 _ ?_
     by_cases hg6 : decide (r5 > 20) = true
     ·
      replace hv := iteT hg6 hv
      iterate 4 refine qX (decide (r5 > 20)) (by rw [hg6]; decide) ?_
      refine step (v := vb true) (st_pickT (b := decide (r5 > 20)) rfl hg6 rfl) ?_
      have hh := Option.some.inj hv
      subst hh
      exact nR []
     ·
      replace hv := iteF hg6 hv
      refine qG (decide (r5 > 20)) (Bool.eq_false_iff.2 hg6) ?_
      refine q1 _ ?_
      refine qG (decide (r5 > 20)) (Bool.eq_false_iff.2 hg6) ?_
      refine q1 _ ?_
      refine qG (decide (r5 > 20)) (Bool.eq_false_iff.2 hg6) ?_
      refine step (v := vi (a0.Rules.length : Int)) (st_len (xs := a0.Rules) (e := eapi_Rule) rfl) ?_
      refine qG (decide (r5 > 20)) (Bool.eq_false_iff.2 hg6) ?_
      refine q1 _ ?_
      refine step (v := vb (decide ((a0.Rules.length : Int) > 24))) (st_pickF (b := decide (r5 > 20)) rfl hg6 rfl) ?_
      have hh := Option.some.inj hv
      subst hh
      exact nR []
 by_cases hc9 : y7 = true
 ·
  replace h := iteT hc9 h
  refine NWp.condT (t := y7) rfl hc9 ?_
  refine NWp.opsJ ⟨tab [(2, vi 2)], stab [], 0⟩ ?_ ?_
  ·
   refine q1 _ ?_
   exact nR []
  have hh := Option.some.inj h
  subst hh
  refine NWp.ret ?_
  show FQ _ _ _ _
  exact FQ.mk1 (.inr rfl) (res_t (v := vi 2) rfl rfl) (RV.d trivial)
 ·
  replace h := iteF hc9 h
  refine NWp.condF (t := y7) rfl hc9 ?_
  refine NWp.skip ?_
  refine NWp.seq ?_
  obtain ⟨r10, hr10, h⟩ := bindE h
  refine NWp.opsJ ⟨tab [(1, vp2 a0), (39, vb (!r10))], stab [], 0⟩ ?_ ?_
  ·
   iterate 4 refine q1 _ ?_
   refine step (v := vi (a0.Init.length : Int)) (st_len (xs := a0.Init) (e := (D.int .u16)) rfl) ?_
   refine stepC (r := .bool r10) (ArgsOk.dt (ArgsOk.dt ArgsOk.nil')) (c_ref05_formed hr10) ?_
   refine q1 _ ?_
   exact nR []
  by_cases hc11 : (!r10) = true
  ·
   replace h := iteT hc11 h
   refine NWp.condT (t := (!r10)) rfl hc11 ?_
   refine NWp.opsJ ⟨tab [(2, vi 11)], stab [], 0⟩ ?_ ?_
   ·
    refine q1 _ ?_
    exact nR []
   have hh := Option.some.inj h
   subst hh
   refine NWp.ret ?_
   show FQ _ _ _ _
   exact FQ.mk1 (.inr rfl) (res_t (v := vi 11) rfl rfl) (RV.d trivial)
  ·
   replace h := iteF hc11 h
   refine NWp.condF (t := (!r10)) rfl hc11 ?_
   refine NWp.skip ?_
   refine NWp.seq ?_
   refine NWp.opsJ ⟨tab [(1, vp2 a0), (3, vi 0)], stab [], 0⟩ ?_ ?_
   ·
    refine q1 _ ?_
    exact nR []
   obtain ⟨q33, hl, h⟩ := bindE h
   refine NWp.block ?_
   refine loop_forR (cntU (a0.Rules.length : Int)) (fun (i12 : Int) (qq : Unit) => ⟨tab [(1, vp2 a0), (3, vi i12)], stab [], 0⟩) 0 (fun (qq : Unit) => ⟨tab [], stab [], 0⟩) Low low_step (r := r) hl (by unfold Low; omega) ?_ ?_ ?_ ?_
   ·
    rintro i12 ⟨⟩ xr17 hinv15 hgo14 h
    show NWp _ _ _ _ _ ⟨tab [(1, vp2 a0), (3, vi i12)], stab [], 0⟩
    have hc16 : decide (i12 < (a0.Rules.length : Int)) = true := decide_eq_true hgo14
    refine NWp.seq ?_
    refine NWp.opsJ ⟨tab [(1, vp2 a0), (3, vi i12), (43, vi (a0.Rules.length : Int)), (44, vb (decide (i12 < (a0.Rules.length : Int))))], stab [], 0⟩ ?_ ?_
    ·
     iterate 3 refine q1 _ ?_
     refine step (v := vi (a0.Rules.length : Int)) (st_len (xs := a0.Rules) (e := eapi_Rule) rfl) ?_
     refine q1 _ ?_
     exact nR []
    refine NWp.rng 43 rfl fun hB13 => ?_
    refine NWp.condT (t := decide (i12 < (a0.Rules.length : Int))) rfl hc16 ?_
    refine NWp.skip ?_
    refine NWp.seq ?_
    refine NWp.block ?_
    obtain ⟨x18, hx18, h⟩ := bindE h
    refine NWp.opsJ ⟨tab [(1, vp2 a0), (3, vi i12), (4, .ptr 0 0 0)], stab [(0, bv0 x18)], 1⟩ ?_ ?_
    ·
     iterate 3 refine q1 _ ?_
     refine step (v := vp3 x18) (st_iaddr (xs := a0.Rules) (e := eapi_Rule) hx18 rfl rfl) ?_
     refine q1 _ ?_
     refine step (v := .ptr 0 0 0) (σ' := (upd (stab []) 0 (some (.var [vl2 [], vl2 [], vl2 []])))) (n' := 1) rfl ?_
     refine step (v := V.undef) (σ' := (upd (upd (stab []) 0 (some (.var [vl2 [], vl2 [], vl2 []]))) 0 (some (bv0 x18)))) (n' := 1) rfl ?_
     exact nR [0]
    obtain ⟨y30, hv, h⟩ := bindE h
    refine NWp.opsJ ⟨tab [(1, vp2 a0), (3, vi i12), (101, vb y30)], stab [], 0⟩ ?_ ?_
    ·
     iterate 2 refine q1 _ ?_
     refine step (v := vi (x18.When.length : Int)) (st_len (xs := x18.When) (e := eapi_Pair) rfl) ?_
     iterate 2 refine q1 _ ?_
     by_cases hg19 : decide ((x18.When.length : Int) < 2) = true
     ·
      replace hv := iteT hg19 hv
      iterate 6 refine qX (decide ((x18.When.length : Int) < 2)) (by rw [hg19]; decide) ?_
      refine step (v := vb true) (st_pickT (b := decide ((x18.When.length : Int) < 2)) rfl hg19 rfl) ?_
      refine q1 _ ?_
      iterate 6 refine qX true (by decide) ?_
      refine step (v := vb true) (st_pickT (b := true) rfl rfl rfl) ?_
      refine q1 _ ?_
      iterate 4 refine qX true (by decide) ?_
      refine step (v := vb true) (st_pickT (b := true) rfl rfl rfl) ?_
      refine q1 _ ?_
      iterate 7 refine qX true (by decide) ?_
      refine step (v := vb true) (st_pickT (b := true) rfl rfl rfl) ?_
      refine q1 _ ?_
      iterate 7 refine qX true (by decide) ?_
      refine step (v := vb true) (st_pickT (b := true) rfl rfl rfl) ?_
      refine q1 _ ?_
      iterate 4 refine qX true (by decide) ?_
      refine step (v := vb true) (st_pickT (b := true) rfl rfl rfl) ?_
      have hh := Option.some.inj hv
      subst hh
      exact nR []
     ·
      replace hv := iteF hg19 hv
      obtain ⟨x20, hx20, hv⟩ := bindE hv
      refine qG (decide ((x18.When.length : Int) < 2)) (Bool.eq_false_iff.2 hg19) ?_
      refine q1 _ ?_
      refine qG (decide ((x18.When.length : Int) < 2)) (Bool.eq_false_iff.2 hg19) ?_
      refine q1 _ ?_
      refine qG (decide ((x18.When.length : Int) < 2)) (Bool.eq_false_iff.2 hg19) ?_
      refine step (v := vp4 x20) (st_iaddr (xs := x18.When) (e := eapi_Pair) hx20 rfl rfl) ?_
      refine qG (decide ((x18.When.length : Int) < 2)) (Bool.eq_false_iff.2 hg19) ?_
      refine q1 _ ?_
      refine qG (decide ((x18.When.length : Int) < 2)) (Bool.eq_false_iff.2 hg19) ?_
      refine q1 _ ?_
      refine qG (decide ((x18.When.length : Int) < 2)) (Bool.eq_false_iff.2 hg19) ?_
      refine q1 _ ?_
      refine step (v := vb (x20.F != 0)) (st_pickF (b := decide ((x18.When.length : Int) < 2)) rfl hg19 rfl) ?_
      refine q1 _ ?_
      by_cases hg21 : (x20.F != 0) = true
      ·
       replace hv := iteT hg21 hv
       iterate 6 refine qX (x20.F != 0) (by rw [hg21]; decide) ?_
       refine step (v := vb true) (st_pickT (b := (x20.F != 0)) rfl hg21 rfl) ?_
       refine q1 _ ?_
       iterate 4 refine qX true (by decide) ?_
       refine step (v := vb true) (st_pickT (b := true) rfl rfl rfl) ?_
       refine q1 _ ?_
       iterate 7 refine qX true (by decide) ?_
       refine step (v := vb true) (st_pickT (b := true) rfl rfl rfl) ?_
       refine q1 _ ?_
       iterate 7 refine qX true (by decide) ?_
       refine step (v := vb true) (st_pickT (b := true) rfl rfl rfl) ?_
       refine q1 _ ?_
       iterate 4 refine qX true (by decide) ?_
       refine step (v := vb true) (st_pickT (b := true) rfl rfl rfl) ?_
       have hh := Option.some.inj hv
       subst hh
       exact nR []
      ·
       replace hv := iteF hg21 hv
       obtain ⟨x22, hx22, hv⟩ := bindE hv
       refine qG (x20.F != 0) (Bool.eq_false_iff.2 hg21) ?_
       refine q1 _ ?_
       refine qG (x20.F != 0) (Bool.eq_false_iff.2 hg21) ?_
       refine q1 _ ?_
       refine qG (x20.F != 0) (Bool.eq_false_iff.2 hg21) ?_
       refine step (v := vp4 x22) (st_iaddr (xs := x18.When) (e := eapi_Pair) hx22 rfl rfl) ?_
       refine qG (x20.F != 0) (Bool.eq_false_iff.2 hg21) ?_
       refine q1 _ ?_
       refine qG (x20.F != 0) (Bool.eq_false_iff.2 hg21) ?_
       refine q1 _ ?_
       refine qG (x20.F != 0) (Bool.eq_false_iff.2 hg21) ?_
       refine q1 _ ?_
       refine step (v := vb (x22.F != 1)) (st_pickF (b := (x20.F != 0)) rfl hg21 rfl) ?_
       refine q1 _ ?_
       by_cases hg23 : (x22.F != 1) = true
       ·
        replace hv := iteT hg23 hv
        iterate 4 refine qX (x22.F != 1) (by rw [hg23]; decide) ?_
        refine step (v := vb true) (st_pickT (b := (x22.F != 1)) rfl hg23 rfl) ?_
        refine q1 _ ?_
        iterate 7 refine qX true (by decide) ?_
        refine step (v := vb true) (st_pickT (b := true) rfl rfl rfl) ?_
        refine q1 _ ?_
        iterate 7 refine qX true (by decide) ?_
        refine step (v := vb true) (st_pickT (b := true) rfl rfl rfl) ?_
        refine q1 _ ?_
        iterate 4 refine qX true (by decide) ?_
        refine step (v := vb true) (st_pickT (b := true) rfl rfl rfl) ?_
        have hh := Option.some.inj hv
        subst hh
        exact nR []
       ·
        replace hv := iteF hg23 hv
        obtain ⟨r24, hr24, hv⟩ := bindE hv
        refine qG (x22.F != 1) (Bool.eq_false_iff.2 hg23) ?_
        refine q1 _ ?_
        refine qG (x22.F != 1) (Bool.eq_false_iff.2 hg23) ?_
        refine q1 _ ?_
        refine qG (x22.F != 1) (Bool.eq_false_iff.2 hg23) ?_
        refine stepC (r := .bool r24) (ArgsOk.dt (ArgsOk.dt ArgsOk.nil')) (c_ref05_rising hr24) ?_
        refine qG (x22.F != 1) (Bool.eq_false_iff.2 hg23) ?_
        refine q1 _ ?_
        refine step (v := vb (!r24)) (st_pickF (b := (x22.F != 1)) rfl hg23 rfl) ?_
        refine q1 _ ?_
        by_cases hg25 : (!r24) = true
        ·
         replace hv := iteT hg25 hv
         iterate 7 refine qX (!r24) (by rw [hg25]; decide) ?_
         refine step (v := vb true) (st_pickT (b := (!r24)) rfl hg25 rfl) ?_
         refine q1 _ ?_
         iterate 7 refine qX true (by decide) ?_
         refine step (v := vb true) (st_pickT (b := true) rfl rfl rfl) ?_
         refine q1 _ ?_
         iterate 4 refine qX true (by decide) ?_
         refine step (v := vb true) (st_pickT (b := true) rfl rfl rfl) ?_
         have hh := Option.some.inj hv
         subst hh
         exact nR []
        ·
         replace hv := iteF hg25 hv
         obtain ⟨r26, hr26, hv⟩ := bindE hv
         refine qG (!r24) (Bool.eq_false_iff.2 hg25) ?_
         refine q1 _ ?_
         refine qG (!r24) (Bool.eq_false_iff.2 hg25) ?_
         refine q1 _ ?_
         refine qG (!r24) (Bool.eq_false_iff.2 hg25) ?_
         refine q1 _ ?_
         refine qG (!r24) (Bool.eq_false_iff.2 hg25) ?_
         refine q1 _ ?_
         refine qG (!r24) (Bool.eq_false_iff.2 hg25) ?_
         refine step (v := vi (a0.Init.length : Int)) (st_len (xs := a0.Init) (e := (D.int .u16)) rfl) ?_
         refine qG (!r24) (Bool.eq_false_iff.2 hg25) ?_
         refine stepC (r := .bool r26) (ArgsOk.dt (ArgsOk.dt ArgsOk.nil')) (c_ref05_rising hr26) ?_
         refine qG (!r24) (Bool.eq_false_iff.2 hg25) ?_
         refine q1 _ ?_
         refine step (v := vb (!r26)) (st_pickF (b := (!r24)) rfl hg25 rfl) ?_
         refine q1 _ ?_
         by_cases hg27 : (!r26) = true
         ·
          replace hv := iteT hg27 hv
          iterate 7 refine qX (!r26) (by rw [hg27]; decide) ?_
          refine step (v := vb true) (st_pickT (b := (!r26)) rfl hg27 rfl) ?_
          refine q1 _ ?_
          iterate 4 refine qX true (by decide) ?_
          refine step (v := vb true) (st_pickT (b := true) rfl rfl rfl) ?_
          have hh := Option.some.inj hv
          subst hh
          exact nR []
         ·
          replace hv := iteF hg27 hv
          obtain ⟨r28, hr28, hv⟩ := bindE hv
          refine qG (!r26) (Bool.eq_false_iff.2 hg27) ?_
          refine q1 _ ?_
          refine qG (!r26) (Bool.eq_false_iff.2 hg27) ?_
          refine q1 _ ?_
          refine qG (!r26) (Bool.eq_false_iff.2 hg27) ?_
          refine q1 _ ?_
          refine qG (!r26) (Bool.eq_false_iff.2 hg27) ?_
          refine q1 _ ?_
          refine qG (!r26) (Bool.eq_false_iff.2 hg27) ?_
          refine step (v := vi (a0.Init.length : Int)) (st_len (xs := a0.Init) (e := (D.int .u16)) rfl) ?_
          refine qG (!r26) (Bool.eq_false_iff.2 hg27) ?_
          refine stepC (r := .bool r28) (ArgsOk.dt (ArgsOk.dt ArgsOk.nil')) (c_ref05_rising hr28) ?_
          refine qG (!r26) (Bool.eq_false_iff.2 hg27) ?_
          refine q1 _ ?_
          refine step (v := vb (!r28)) (st_pickF (b := (!r26)) rfl hg27 rfl) ?_
          refine q1 _ ?_
          by_cases hg29 : (!r28) = true
          ·
           replace hv := iteT hg29 hv
           iterate 4 refine qX (!r28) (by rw [hg29]; decide) ?_
           refine step (v := vb true) (st_pickT (b := (!r28)) rfl hg29 rfl) ?_
           have hh := Option.some.inj hv
           subst hh
           exact nR []
          ·
           replace hv := iteF hg29 hv
           refine qG (!r28) (Bool.eq_false_iff.2 hg29) ?_
           refine q1 _ ?_
           refine qG (!r28) (Bool.eq_false_iff.2 hg29) ?_
           refine q1 _ ?_
           refine qG (!r28) (Bool.eq_false_iff.2 hg29) ?_
           refine step (v := vi (x18.Then.length : Int)) (st_len (xs := x18.Then) (e := eapi_Pair) rfl) ?_
           refine qG (!r28) (Bool.eq_false_iff.2 hg29) ?_
           refine q1 _ ?_
           refine step (v := vb ((x18.Then.length : Int) == 0)) (st_pickF (b := (!r28)) rfl hg29 rfl) ?_
           have hh := Option.some.inj hv
           subst hh
           exact nR []
    by_cases hc32 : y30 = true
    ·
     replace h := iteT hc32 h
     refine NWp.condT (t := y30) rfl hc32 ?_
     refine NWp.opsJ ⟨tab [(2, vi 11)], stab [], 0⟩ ?_ ?_
     ·
      refine q1 _ ?_
      exact nR []
     obtain ⟨r33, kr33, hr⟩ := mapE (o := some 11) (g := Br.ret) h
     subst hr
     have h := kr33
     have hh := Option.some.inj h
     subst hh
     refine NWp.ret ?_
     refine And.intro (fun hn => nomatch hn) ?_
     intro hq
     have hq := hq.symm
     subst hq
     show FQ _ _ _ _
     exact FQ.mk1 (.inr rfl) (res_t (v := vi 11) rfl rfl) (RV.d trivial)
    ·
     replace h := iteF hc32 h
     refine NWp.condF (t := y30) rfl hc32 ?_
     refine NWp.skip ?_
     have hh := Option.some.inj h
     subst hh
     refine NWp.opsE ⟨tab [(1, vp2 a0), (3, vi (i12 + 1))], stab [], 0⟩ ?_ ?_
     ·
      refine q1 _ ?_
      refine step (v := vi (i12 + 1)) (st_inc (inc_ok hinv15 hgo14 hB13) rfl rfl) ?_
      refine q1 _ ?_
      exact nR []
     exact And.intro rfl rfl
   ·
    rintro i12 ⟨⟩ hinv15 hgo14
    show NWp _ _ _ _ _ ⟨tab [(1, vp2 a0), (3, vi i12)], stab [], 0⟩
    have hc16 : ¬ (decide (i12 < (a0.Rules.length : Int)) = true) := fun hq => hgo14 (of_decide_eq_true hq)
    refine NWp.seq ?_
    refine NWp.opsJ ⟨tab [(1, vp2 a0), (3, vi i12), (44, vb (decide (i12 < (a0.Rules.length : Int))))], stab [], 0⟩ ?_ ?_
    ·
     iterate 3 refine q1 _ ?_
     refine step (v := vi (a0.Rules.length : Int)) (st_len (xs := a0.Rules) (e := eapi_Rule) rfl) ?_
     refine q1 _ ?_
     exact nR []
    refine NWp.condF (t := decide (i12 < (a0.Rules.length : Int))) rfl hc16 ?_
    refine NWp.norm (s0 := ⟨tab [], stab [], 0⟩) (nr []) ?_
    refine NWp.exit ?_
    exact And.intro rfl rfl
   ·
    intro r' hq
    subst hq
    exact Option.some.inj h
   rintro ⟨⟩ rfl
   refine NWp.opsJ ⟨tab [(2, vi 0)], stab [], 0⟩ ?_ ?_
   ·
    refine q1 _ ?_
    exact nR []
   have hh := Option.some.inj h
   subst hh
   refine NWp.ret ?_
   show FQ _ _ _ _
   exact FQ.mk1 (.inr rfl) (res_t (v := vi 0) rfl rfl) (RV.d trivial)

theorem c_ref11_Goes {a0 : api_Rule} {a1 : (List Int)} {r : Bool} (h : ref11_Goes a0 a1 = some r) : PCall Try.prog 29 [eapi_Rule a0, eL none (D.int .u16) a1] (.bool r) := by
 refine PCall.introN ok29 (show 2 ≤ 39 by decide) ?_
 refine NWp.norm (s0 := ⟨tab [(0, vs4 a0), (1, vl1 a1)], stab [], 0⟩) (nr []) ?_
 refine NWp.opsJ ⟨tab [(1, vl1 a1), (2, vp3 a0)], stab [], 0⟩ ?_ ?_
 ·
  iterate 2 refine q1 _ ?_
  exact nR []
 refine NWp.seq ?_
 refine NWp.opsJ ⟨tab [(1, vl1 a1), (2, vp3 a0), (5, vi 0)], stab [], 0⟩ ?_ ?_
 ·
  refine q1 _ ?_
  exact nR []
 obtain ⟨q14, hl, h⟩ := bindE h
 refine NWp.block ?_
 refine loop_forR (cntU (a0.Guard.length : Int)) (fun (i1 : Int) (qq : Unit) => ⟨tab [(1, vl1 a1), (2, vp3 a0), (5, vi i1)], stab [], 0⟩) 0 (fun (qq : Unit) => ⟨tab [], stab [], 0⟩) Low low_step (r := r) hl (by unfold Low; omega) ?_ ?_ ?_ ?_
 ·
  rintro i1 ⟨⟩ xr6 hinv4 hgo3 h
  show NWp _ _ _ _ _ ⟨tab [(1, vl1 a1), (2, vp3 a0), (5, vi i1)], stab [], 0⟩
  have hc5 : decide (i1 < (a0.Guard.length : Int)) = true := decide_eq_true hgo3
  refine NWp.seq ?_
  refine NWp.opsJ ⟨tab [(1, vl1 a1), (2, vp3 a0), (5, vi i1), (10, vi (a0.Guard.length : Int)), (11, vb (decide (i1 < (a0.Guard.length : Int))))], stab [], 0⟩ ?_ ?_
  ·
   iterate 3 refine q1 _ ?_
   refine step (v := vi (a0.Guard.length : Int)) (st_len (xs := a0.Guard) (e := eapi_Pair) rfl) ?_
   refine q1 _ ?_
   exact nR []
  refine NWp.rng 10 rfl fun hB2 => ?_
  refine NWp.condT (t := decide (i1 < (a0.Guard.length : Int))) rfl hc5 ?_
  refine NWp.skip ?_
  refine NWp.seq ?_
  refine NWp.block ?_
  obtain ⟨x7, hx7, h⟩ := bindE h
  refine NWp.opsJ ⟨tab [(1, vl1 a1), (2, vp3 a0), (5, vi i1), (6, .ptr 0 0 0)], stab [(0, .var [vi x7.F, vh x7.N])], 1⟩ ?_ ?_
  ·
   iterate 3 refine q1 _ ?_
   refine step (v := vp4 x7) (st_iaddr (xs := a0.Guard) (e := eapi_Pair) hx7 rfl rfl) ?_
   refine q1 _ ?_
   refine step (v := .ptr 0 0 0) (σ' := (upd (stab []) 0 (some (.var [vi 0, vh 0])))) (n' := 1) rfl ?_
   refine step (v := V.undef) (σ' := (upd (upd (stab []) 0 (some (.var [vi 0, vh 0]))) 0 (some (.var [vi x7.F, vh x7.N])))) (n' := 1) rfl ?_
   exact nR [0]
  obtain ⟨y11, hv, h⟩ := bindE h
  refine NWp.opsJ ⟨tab [(1, vl1 a1), (2, vp3 a0), (5, vi i1), (38, vb y11)], stab [], 0⟩ ?_ ?_
  ·
   iterate 4 refine q1 _ ?_
   by_cases hg8 : decide (x7.F < 0) = true
   ·
    replace hv := iteT hg8 hv
    iterate 5 refine qX (decide (x7.F < 0)) (by rw [hg8]; decide) ?_
    refine step (v := vb true) (st_pickT (b := decide (x7.F < 0)) rfl hg8 rfl) ?_
    refine q1 _ ?_
    iterate 8 refine qX true (by decide) ?_
    refine step (v := vb true) (st_pickT (b := true) rfl rfl rfl) ?_
    have hh := Option.some.inj hv
    subst hh
    exact nR []
   ·
    replace hv := iteF hg8 hv
    refine qG (decide (x7.F < 0)) (Bool.eq_false_iff.2 hg8) ?_
    refine q1 _ ?_
    refine qG (decide (x7.F < 0)) (Bool.eq_false_iff.2 hg8) ?_
    refine q1 _ ?_
    refine qG (decide (x7.F < 0)) (Bool.eq_false_iff.2 hg8) ?_
    refine q1 _ ?_
    refine qG (decide (x7.F < 0)) (Bool.eq_false_iff.2 hg8) ?_
    refine step (v := vi (a1.length : Int)) (st_len (xs := a1) (e := (D.int .u16)) rfl) ?_
    refine qG (decide (x7.F < 0)) (Bool.eq_false_iff.2 hg8) ?_
    refine q1 _ ?_
    refine step (v := vb (decide (x7.F ≥ (a1.length : Int)))) (st_pickF (b := decide (x7.F < 0)) rfl hg8 rfl) ?_
    refine q1 _ ?_
    by_cases hg9 : decide (x7.F ≥ (a1.length : Int)) = true
    ·
     replace hv := iteT hg9 hv
     iterate 8 refine qX (decide (x7.F ≥ (a1.length : Int))) (by rw [hg9]; decide) ?_
     refine step (v := vb true) (st_pickT (b := decide (x7.F ≥ (a1.length : Int))) rfl hg9 rfl) ?_
     have hh := Option.some.inj hv
     subst hh
     exact nR []
    ·
     replace hv := iteF hg9 hv
     obtain ⟨x10, hx10, hv⟩ := bindE hv
     refine qG (decide (x7.F ≥ (a1.length : Int))) (Bool.eq_false_iff.2 hg9) ?_
     refine q1 _ ?_
     refine qG (decide (x7.F ≥ (a1.length : Int))) (Bool.eq_false_iff.2 hg9) ?_
     refine q1 _ ?_
     refine qG (decide (x7.F ≥ (a1.length : Int))) (Bool.eq_false_iff.2 hg9) ?_
     refine q1 _ ?_
     refine qG (decide (x7.F ≥ (a1.length : Int))) (Bool.eq_false_iff.2 hg9) ?_
     refine step (v := .d (.cptr none (.int .u16 x10) 0)) (st_iaddr (xs := a1) (e := (D.int .u16)) hx10 rfl rfl) ?_
     refine qG (decide (x7.F ≥ (a1.length : Int))) (Bool.eq_false_iff.2 hg9) ?_
     refine q1 _ ?_
     refine qG (decide (x7.F ≥ (a1.length : Int))) (Bool.eq_false_iff.2 hg9) ?_
     refine q1 _ ?_
     refine qG (decide (x7.F ≥ (a1.length : Int))) (Bool.eq_false_iff.2 hg9) ?_
     refine q1 _ ?_
     refine qG (decide (x7.F ≥ (a1.length : Int))) (Bool.eq_false_iff.2 hg9) ?_
     refine q1 _ ?_
     refine step (v := vb (x10 != x7.N)) (st_pickF (b := decide (x7.F ≥ (a1.length : Int))) rfl hg9 rfl) ?_
     have hh := Option.some.inj hv
     subst hh
     exact nR []
  by_cases hc13 : y11 = true
  ·
   replace h := iteT hc13 h
   refine NWp.condT (t := y11) rfl hc13 ?_
   refine NWp.opsJ ⟨tab [(4, vb false)], stab [], 0⟩ ?_ ?_
   ·
    refine q1 _ ?_
    exact nR []
   obtain ⟨r14, kr14, hr⟩ := mapE (o := some false) (g := Br.ret) h
   subst hr
   have h := kr14
   have hh := Option.some.inj h
   subst hh
   refine NWp.ret ?_
   refine And.intro (fun hn => nomatch hn) ?_
   intro hq
   have hq := hq.symm
   subst hq
   show FQ _ _ _ _
   exact FQ.mk1 (.inr rfl) (res_t (v := vb false) rfl rfl) (RV.d trivial)
  ·
   replace h := iteF hc13 h
   refine NWp.condF (t := y11) rfl hc13 ?_
   refine NWp.skip ?_
   have hh := Option.some.inj h
   subst hh
   refine NWp.opsE ⟨tab [(1, vl1 a1), (2, vp3 a0), (5, vi (i1 + 1))], stab [], 0⟩ ?_ ?_
   ·
    refine q1 _ ?_
    refine step (v := vi (i1 + 1)) (st_inc (inc_ok hinv4 hgo3 hB2) rfl rfl) ?_
    refine q1 _ ?_
    exact nR []
   exact And.intro rfl rfl
 ·
  rintro i1 ⟨⟩ hinv4 hgo3
  show NWp _ _ _ _ _ ⟨tab [(1, vl1 a1), (2, vp3 a0), (5, vi i1)], stab [], 0⟩
  have hc5 : ¬ (decide (i1 < (a0.Guard.length : Int)) = true) := fun hq => hgo3 (of_decide_eq_true hq)
  refine NWp.seq ?_
  refine NWp.opsJ ⟨tab [(1, vl1 a1), (2, vp3 a0), (5, vi i1), (11, vb (decide (i1 < (a0.Guard.length : Int))))], stab [], 0⟩ ?_ ?_
  ·
   iterate 3 refine q1 _ ?_
   refine step (v := vi (a0.Guard.length : Int)) (st_len (xs := a0.Guard) (e := eapi_Pair) rfl) ?_
   refine q1 _ ?_
   exact nR []
  refine NWp.condF (t := decide (i1 < (a0.Guard.length : Int))) rfl hc5 ?_
  refine NWp.norm (s0 := ⟨tab [], stab [], 0⟩) (nr []) ?_
  refine NWp.exit ?_
  exact And.intro rfl rfl
 ·
  intro r' hq
  subst hq
  exact Option.some.inj h
 rintro ⟨⟩ rfl
 refine NWp.opsJ ⟨tab [(4, vb true)], stab [], 0⟩ ?_ ?_
 ·
  refine q1 _ ?_
  exact nR []
 have hh := Option.some.inj h
 subst hh
 refine NWp.ret ?_
 show FQ _ _ _ _
 exact FQ.mk1 (.inr rfl) (res_t (v := vb true) rfl rfl) (RV.d trivial)

theorem c_ref11_After {a0 : api_Rule} {a1 : (List Int)} {r : (List Int)} (h : ref11_After a0 a1 = some r) : PCall Try.prog 32 [eapi_Rule a0, eL none (D.int .u16) a1] (eL none (D.int .u16) r) := by
 refine PCall.introN ok32 (show 2 ≤ 40 by decide) ?_
 refine NWp.norm (s0 := ⟨tab [(0, vs4 a0), (1, vl1 a1)], stab [], 0⟩) (nr []) ?_
 refine NWp.opsJ ⟨tab [(1, vl1 a1), (2, vp3 a0)], stab [], 0⟩ ?_ ?_
 ·
  iterate 2 refine q1 _ ?_
  exact nR []
 obtain ⟨l1, hl1, h⟩ := bindE h
 refine NWp.opsJ ⟨tab [(2, vp3 a0), (5, .loc 0 0 l1.length)], stab [(0, .lst true none (List.map (D.int .u16) l1))], 1⟩ ?_ ?_
 ·
  refine step (v := .loc 0 0 (([] : List Int).length)) (σ' := (upd (stab []) 0 (some (.lst true none (List.map (D.int .u16) ([] : List Int)))))) (n' := 1) rfl ?_
  refine q1 _ ?_
  refine step (v := .loc 1 0 l1.length) (σ' := (upd (upd (upd (stab []) 0 (some (.lst true none (List.map (D.int .u16) ([] : List Int))))) 0 none) 1 (some (.lst true none (List.map (D.int .u16) l1))))) (n' := 2) (st_app (xs := ([] : List Int)) (ys := a1) (e := (D.int .u16)) hl1 rfl rfl rfl (src_v (xs := a1) (e := (D.int .u16)) rfl)) ?_
  refine q1 _ ?_
  exact nR [1]
 refine NWp.seq ?_
 refine NWp.opsJ ⟨tab [(2, vp3 a0), (5, .loc 0 0 l1.length), (6, vi 0)], stab [(0, .lst true none (List.map (D.int .u16) l1))], 1⟩ ?_ ?_
 ·
  refine q1 _ ?_
  exact nR [0]
 obtain ⟨z16, hl, h⟩ := bindE h
 refine NWp.block ?_
 refine loop_forO (cntU (a0.Then.length : Int)) (fun (i3 : Int) (qq : (List Int)) => ⟨tab [(2, vp3 a0), (5, .loc 0 0 qq.length), (6, vi i3)], stab [(0, .lst true none (List.map (D.int .u16) qq))], 1⟩) 0 (fun (qq : (List Int)) => ⟨tab [(5, .loc 0 0 qq.length)], stab [(0, .lst true none (List.map (D.int .u16) qq))], 1⟩) Low low_step hl (by unfold Low; omega) ?_ ?_ ?_
 ·
  rintro i3 l2 xr8 hinv6 hgo5 h
  show NWp _ _ _ _ _ ⟨tab [(2, vp3 a0), (5, .loc 0 0 l2.length), (6, vi i3)], stab [(0, .lst true none (List.map (D.int .u16) l2))], 1⟩
  have hc7 : decide (i3 < (a0.Then.length : Int)) = true := decide_eq_true hgo5
  refine NWp.seq ?_
  refine NWp.opsJ ⟨tab [(2, vp3 a0), (5, .loc 0 0 l2.length), (6, vi i3), (14, vi (a0.Then.length : Int)), (15, vb (decide (i3 < (a0.Then.length : Int))))], stab [(0, .lst true none (List.map (D.int .u16) l2))], 1⟩ ?_ ?_
  ·
   iterate 3 refine q1 _ ?_
   refine step (v := vi (a0.Then.length : Int)) (st_len (xs := a0.Then) (e := eapi_Pair) rfl) ?_
   refine q1 _ ?_
   exact nR [0]
  refine NWp.rng 14 rfl fun hB4 => ?_
  refine NWp.condT (t := decide (i3 < (a0.Then.length : Int))) rfl hc7 ?_
  refine NWp.skip ?_
  obtain ⟨l14, hv, h⟩ := bindE h
  refine NWp.seqN ⟨tab [(2, vp3 a0), (5, .loc 0 0 l14.length), (6, vi i3)], stab [(0, .lst true none (List.map (D.int .u16) l14))], 1⟩ ?_ ?_
  ·
   replace h := hv
   refine NWp.block ?_
   obtain ⟨x9, hx9, h⟩ := bindE h
   refine NWp.opsJ ⟨tab [(2, vp3 a0), (5, .loc 0 0 l2.length), (6, vi i3), (7, .ptr 1 0 0)], stab [(0, .lst true none (List.map (D.int .u16) l2)), (1, .var [vi x9.F, vh x9.N])], 2⟩ ?_ ?_
   ·
    iterate 3 refine q1 _ ?_
    refine step (v := vp4 x9) (st_iaddr (xs := a0.Then) (e := eapi_Pair) hx9 rfl rfl) ?_
    refine q1 _ ?_
    refine step (v := .ptr 1 0 0) (σ' := (upd (stab [(0, .lst true none (List.map (D.int .u16) l2))]) 1 (some (.var [vi 0, vh 0])))) (n' := 2) rfl ?_
    refine step (v := V.undef) (σ' := (upd (upd (stab [(0, .lst true none (List.map (D.int .u16) l2))]) 1 (some (.var [vi 0, vh 0]))) 1 (some (.var [vi x9.F, vh x9.N])))) (n' := 2) rfl ?_
    exact nR [0, 1]
   refine NWp.opsJ ⟨tab [(2, vp3 a0), (5, .loc 0 0 l2.length), (6, vi i3), (7, .ptr 1 0 0), (32, vb ((decide (x9.F ≥ 0)) && (decide (x9.F < (l2.length : Int)))))], stab [(0, .lst true none (List.map (D.int .u16) l2)), (1, .var [vi x9.F, vh x9.N])], 2⟩ ?_ ?_
   ·
    iterate 4 refine q1 _ ?_
    by_cases hg10 : decide (x9.F ≥ 0) = true
    ·
     refine qG _ hg10 ?_
     refine q1 _ ?_
     refine qG _ hg10 ?_
     refine q1 _ ?_
     refine qG _ hg10 ?_
     refine q1 _ ?_
     refine qG _ hg10 ?_
     refine q1 _ ?_
     refine qG _ hg10 ?_
     refine q1 _ ?_
     refine step (v := vb (decide (x9.F < (l2.length : Int)))) (st_pickT (b := decide (x9.F ≥ 0)) rfl hg10 rfl) ?_
     exact RunOps.nil' (nm [0, 1] ⟨.d _, .lc 0, .d _, .pt 1, .eq (by first | (simp [hg10]; done) | (simp_all; done) | grind), trivial⟩ ⟨⟨show 0 < 2 by decide, _, rfl, .lst _ _ _⟩, ⟨show 1 < 2 by decide, _, rfl, .vars ⟨.d _, .d _, trivial⟩⟩, trivial⟩)
    ·
     iterate 5 refine qX _ hg10 ?_
     refine step (v := vb false) (st_pickF (b := decide (x9.F ≥ 0)) rfl hg10 rfl) ?_
     exact RunOps.nil' (nm [0, 1] ⟨.d _, .lc 0, .d _, .pt 1, .eq (by first | (simp [hg10]; done) | (simp_all; done) | grind), trivial⟩ ⟨⟨show 0 < 2 by decide, _, rfl, .lst _ _ _⟩, ⟨show 1 < 2 by decide, _, rfl, .vars ⟨.d _, .d _, trivial⟩⟩, trivial⟩)
   by_cases hc11 : ((decide (x9.F ≥ 0)) && (decide (x9.F < (l2.length : Int)))) = true
   ·
    replace h := iteT hc11 h
    refine NWp.condT (t := ((decide (x9.F ≥ 0)) && (decide (x9.F < (l2.length : Int))))) rfl hc11 ?_
    obtain ⟨x12, hx12, h⟩ := bindE h
    obtain ⟨l13, hl13, h⟩ := bindE h
    have hh := Option.some.inj h
    subst hh
    refine NWp.opsE ⟨tab [(2, vp3 a0), (5, .loc 0 0 l13.length), (6, vi i3)], stab [(0, .lst true none (List.map (D.int .u16) l13))], 1⟩ ?_ ?_
    ·
     iterate 5 refine q1 _ ?_
     refine step (v := .ptr 0 x9.F.toNat 0) (st_iaddrL (xs := l2) (e := (D.int .u16)) hx12 rfl rfl rfl rfl) ?_
     refine step (v := V.undef) (σ' := (upd (stab [(0, .lst true none (List.map (D.int .u16) l2)), (1, .var [vi x9.F, vh x9.N])]) 0 (some (.lst true none (List.map (D.int .u16) l13))))) (n' := 2) (st_storeL' (e := (D.int .u16)) (v' := x9.N) hl13 rfl rfl rfl rfl rfl) ?_
     exact RunOps.nil' (nm [0] ⟨.d _, .le (id := 0) (gput_len hl13).symm (show 0 < 1 by decide), .d _, trivial⟩ ⟨⟨show 0 < 1 by decide, _, rfl, .lst _ _ _⟩, trivial⟩)
    exact And.intro rfl rfl
   ·
    replace h := iteF hc11 h
    refine NWp.condF (t := ((decide (x9.F ≥ 0)) && (decide (x9.F < (l2.length : Int))))) rfl hc11 ?_
    have hh := Option.some.inj h
    subst hh
    refine NWp.norm (s0 := ⟨tab [(2, vp3 a0), (5, .loc 0 0 l2.length), (6, vi i3)], stab [(0, .lst true none (List.map (D.int .u16) l2))], 1⟩) (nr [0]) ?_
    refine NWp.skip ?_
    exact And.intro rfl rfl
  have hh := Option.some.inj h
  subst hh
  refine NWp.opsE ⟨tab [(2, vp3 a0), (5, .loc 0 0 l14.length), (6, vi (i3 + 1))], stab [(0, .lst true none (List.map (D.int .u16) l14))], 1⟩ ?_ ?_
  ·
   refine q1 _ ?_
   refine step (v := vi (i3 + 1)) (st_inc (inc_ok hinv6 hgo5 hB4) rfl rfl) ?_
   refine q1 _ ?_
   exact nR [0]
  exact And.intro rfl rfl
 ·
  rintro i3 l2 hinv6 hgo5
  show NWp _ _ _ _ _ ⟨tab [(2, vp3 a0), (5, .loc 0 0 l2.length), (6, vi i3)], stab [(0, .lst true none (List.map (D.int .u16) l2))], 1⟩
  have hc7 : ¬ (decide (i3 < (a0.Then.length : Int)) = true) := fun hq => hgo5 (of_decide_eq_true hq)
  refine NWp.seq ?_
  refine NWp.opsJ ⟨tab [(2, vp3 a0), (5, .loc 0 0 l2.length), (6, vi i3), (15, vb (decide (i3 < (a0.Then.length : Int))))], stab [(0, .lst true none (List.map (D.int .u16) l2))], 1⟩ ?_ ?_
  ·
   iterate 3 refine q1 _ ?_
   refine step (v := vi (a0.Then.length : Int)) (st_len (xs := a0.Then) (e := eapi_Pair) rfl) ?_
   refine q1 _ ?_
   exact nR [0]
  refine NWp.condF (t := decide (i3 < (a0.Then.length : Int))) rfl hc7 ?_
  refine NWp.norm (s0 := ⟨tab [(5, .loc 0 0 l2.length)], stab [(0, .lst true none (List.map (D.int .u16) l2))], 1⟩) (nr [0]) ?_
  refine NWp.exit ?_
  exact And.intro rfl rfl
 refine NWp.opsJ ⟨tab [(4, .loc 0 0 z16.length)], stab [(0, .lst true none (List.map (D.int .u16) z16))], 1⟩ ?_ ?_
 ·
  iterate 2 refine q1 _ ?_
  exact nR [0]
 have hh := Option.some.inj h
 subst hh
 refine NWp.ret ?_
 show FQ _ _ _ _
 exact FQ.mk1 (.inr rfl) (res_t (v := .loc 0 0 z16.length) rfl rfl) (RV.loc (xs := z16) (e := (D.int .u16)) rfl rfl trivial)

theorem c_ref11_Same {a0 : (List Int)} {a1 : (List Int)} {r : Bool} (h : ref11_Same a0 a1 = some r) : PCall Try.prog 30 [eL none (D.int .u16) a0, eL none (D.int .u16) a1] (.bool r) := by
 refine PCall.introN ok30 (show 2 ≤ 26 by decide) ?_
 refine NWp.norm (s0 := ⟨tab [(0, vl1 a0), (1, vl1 a1)], stab [], 0⟩) (nr []) ?_
 refine NWp.opsJ ⟨tab [(0, vl1 a0), (1, vl1 a1)], stab [], 0⟩ ?_ ?_
 ·
  refine q1 _ ?_
  exact nR []
 refine NWp.seq ?_
 refine NWp.opsJ ⟨tab [(0, vl1 a0), (1, vl1 a1), (10, vb ((a0.length : Int) != (a1.length : Int)))], stab [], 0⟩ ?_ ?_
 ·
  refine q1 _ ?_
  refine step (v := vi (a0.length : Int)) (st_len (xs := a0) (e := (D.int .u16)) rfl) ?_
  refine q1 _ ?_
  refine step (v := vi (a1.length : Int)) (st_len (xs := a1) (e := (D.int .u16)) rfl) ?_
  refine q1 _ ?_
  exact nR []
 by_cases hc1 : ((a0.length : Int) != (a1.length : Int)) = true
 ·
  replace h := iteT hc1 h
  refine NWp.condT (t := ((a0.length : Int) != (a1.length : Int))) rfl hc1 ?_
  refine NWp.opsJ ⟨tab [(4, vb false)], stab [], 0⟩ ?_ ?_
  ·
   refine q1 _ ?_
   exact nR []
  have hh := Option.some.inj h
  subst hh
  refine NWp.ret ?_
  show FQ _ _ _ _
  exact FQ.mk1 (.inr rfl) (res_t (v := vb false) rfl rfl) (RV.d trivial)
 ·
  replace h := iteF hc1 h
  refine NWp.condF (t := ((a0.length : Int) != (a1.length : Int))) rfl hc1 ?_
  refine NWp.skip ?_
  refine NWp.seq ?_
  refine NWp.opsJ ⟨tab [(0, vl1 a0), (1, vl1 a1), (5, vi 0)], stab [], 0⟩ ?_ ?_
  ·
   refine q1 _ ?_
   exact nR []
  obtain ⟨q11, hl, h⟩ := bindE h
  refine NWp.block ?_
  refine loop_forR (cntU (a0.length : Int)) (fun (i2 : Int) (qq : Unit) => ⟨tab [(0, vl1 a0), (1, vl1 a1), (5, vi i2)], stab [], 0⟩) 0 (fun (qq : Unit) => ⟨tab [], stab [], 0⟩) Low low_step (r := r) hl (by unfold Low; omega) ?_ ?_ ?_ ?_
  ·
   rintro i2 ⟨⟩ xr7 hinv5 hgo4 h
   show NWp _ _ _ _ _ ⟨tab [(0, vl1 a0), (1, vl1 a1), (5, vi i2)], stab [], 0⟩
   have hc6 : decide (i2 < (a0.length : Int)) = true := decide_eq_true hgo4
   refine NWp.seq ?_
   refine NWp.opsJ ⟨tab [(0, vl1 a0), (1, vl1 a1), (5, vi i2), (13, vi (a0.length : Int)), (14, vb (decide (i2 < (a0.length : Int))))], stab [], 0⟩ ?_ ?_
   ·
    iterate 2 refine q1 _ ?_
    refine step (v := vi (a0.length : Int)) (st_len (xs := a0) (e := (D.int .u16)) rfl) ?_
    refine q1 _ ?_
    exact nR []
   refine NWp.rng 13 rfl fun hB3 => ?_
   refine NWp.condT (t := decide (i2 < (a0.length : Int))) rfl hc6 ?_
   refine NWp.skip ?_
   refine NWp.seq ?_
   refine NWp.block ?_
   obtain ⟨x8, hx8, h⟩ := bindE h
   obtain ⟨x9, hx9, h⟩ := bindE h
   refine NWp.opsJ ⟨tab [(0, vl1 a0), (1, vl1 a1), (5, vi i2), (25, vb (x8 != x9))], stab [], 0⟩ ?_ ?_
   ·
    iterate 2 refine q1 _ ?_
    refine step (v := .d (.cptr none (.int .u16 x8) 0)) (st_iaddr (xs := a0) (e := (D.int .u16)) hx8 rfl rfl) ?_
    iterate 3 refine q1 _ ?_
    refine step (v := .d (.cptr none (.int .u16 x9) 0)) (st_iaddr (xs := a1) (e := (D.int .u16)) hx9 rfl rfl) ?_
    iterate 2 refine q1 _ ?_
    exact nR []
   by_cases hc10 : (x8 != x9) = true
   ·
    replace h := iteT hc10 h
    refine NWp.condT (t := (x8 != x9)) rfl hc10 ?_
    refine NWp.opsJ ⟨tab [(4, vb false)], stab [], 0⟩ ?_ ?_
    ·
     refine q1 _ ?_
     exact nR []
    obtain ⟨r11, kr11, hr⟩ := mapE (o := some false) (g := Br.ret) h
    subst hr
    have h := kr11
    have hh := Option.some.inj h
    subst hh
    refine NWp.ret ?_
    refine And.intro (fun hn => nomatch hn) ?_
    intro hq
    have hq := hq.symm
    subst hq
    show FQ _ _ _ _
    exact FQ.mk1 (.inr rfl) (res_t (v := vb false) rfl rfl) (RV.d trivial)
   ·
    replace h := iteF hc10 h
    refine NWp.condF (t := (x8 != x9)) rfl hc10 ?_
    refine NWp.skip ?_
    have hh := Option.some.inj h
    subst hh
    refine NWp.opsE ⟨tab [(0, vl1 a0), (1, vl1 a1), (5, vi (i2 + 1))], stab [], 0⟩ ?_ ?_
    ·
     refine q1 _ ?_
     refine step (v := vi (i2 + 1)) (st_inc (inc_ok hinv5 hgo4 hB3) rfl rfl) ?_
     refine q1 _ ?_
     exact nR []
    exact And.intro rfl rfl
  ·
   rintro i2 ⟨⟩ hinv5 hgo4
   show NWp _ _ _ _ _ ⟨tab [(0, vl1 a0), (1, vl1 a1), (5, vi i2)], stab [], 0⟩
   have hc6 : ¬ (decide (i2 < (a0.length : Int)) = true) := fun hq => hgo4 (of_decide_eq_true hq)
   refine NWp.seq ?_
   refine NWp.opsJ ⟨tab [(0, vl1 a0), (1, vl1 a1), (5, vi i2), (14, vb (decide (i2 < (a0.length : Int))))], stab [], 0⟩ ?_ ?_
   ·
    iterate 2 refine q1 _ ?_
    refine step (v := vi (a0.length : Int)) (st_len (xs := a0) (e := (D.int .u16)) rfl) ?_
    refine q1 _ ?_
    exact nR []
   refine NWp.condF (t := decide (i2 < (a0.length : Int))) rfl hc6 ?_
   refine NWp.norm (s0 := ⟨tab [], stab [], 0⟩) (nr []) ?_
   refine NWp.exit ?_
   exact And.intro rfl rfl
  ·
   intro r' hq
   subst hq
   exact Option.some.inj h
  rintro ⟨⟩ rfl
  refine NWp.opsJ ⟨tab [(4, vb true)], stab [], 0⟩ ?_ ?_
  ·
   refine q1 _ ?_
   exact nR []
  have hh := Option.some.inj h
  subst hh
  refine NWp.ret ?_
  show FQ _ _ _ _
  exact FQ.mk1 (.inr rfl) (res_t (v := vb true) rfl rfl) (RV.d trivial)

theorem c_ref11_Find {a0 : (List (List Int))} {a1 : (List Int)} {r : Int} (h : ref11_Find a0 a1 = some r) : PCall Try.prog 70 [eL none (eL none (D.int .u16)) a0, eL none (D.int .u16) a1] (.int .i64 r) := by
 refine PCall.introN ok70 (show 2 ≤ 19 by decide) ?_
 refine NWp.norm (s0 := ⟨tab [(0, .d (eL none (eL none (D.int .u16)) a0)), (1, vl1 a1)], stab [], 0⟩) (nr []) ?_
 refine NWp.opsJ ⟨tab [(0, .d (eL none (eL none (D.int .u16)) a0)), (1, vl1 a1)], stab [], 0⟩ ?_ ?_
 ·
  refine q1 _ ?_
  exact nR []
 refine NWp.seq ?_
 refine NWp.opsJ ⟨tab [(0, .d (eL none (eL none (D.int .u16)) a0)), (1, vl1 a1), (5, vi 0)], stab [], 0⟩ ?_ ?_
 ·
  refine q1 _ ?_
  exact nR []
 obtain ⟨q10, hl, h⟩ := bindE h
 refine NWp.block ?_
 refine loop_forR (cntU (a0.length : Int)) (fun (i1 : Int) (qq : Unit) => ⟨tab [(0, .d (eL none (eL none (D.int .u16)) a0)), (1, vl1 a1), (5, vi i1)], stab [], 0⟩) 0 (fun (qq : Unit) => ⟨tab [], stab [], 0⟩) Low low_step (r := r) hl (by unfold Low; omega) ?_ ?_ ?_ ?_
 ·
  rintro i1 ⟨⟩ xr6 hinv4 hgo3 h
  show NWp _ _ _ _ _ ⟨tab [(0, .d (eL none (eL none (D.int .u16)) a0)), (1, vl1 a1), (5, vi i1)], stab [], 0⟩
  have hc5 : decide (i1 < (a0.length : Int)) = true := decide_eq_true hgo3
  refine NWp.seq ?_
  refine NWp.opsJ ⟨tab [(0, .d (eL none (eL none (D.int .u16)) a0)), (1, vl1 a1), (5, vi i1), (8, vi (a0.length : Int)), (9, vb (decide (i1 < (a0.length : Int))))], stab [], 0⟩ ?_ ?_
  ·
   iterate 2 refine q1 _ ?_
   refine step (v := vi (a0.length : Int)) (st_len (xs := a0) (e := (eL none (D.int .u16))) rfl) ?_
   refine q1 _ ?_
   exact nR []
  refine NWp.rng 8 rfl fun hB2 => ?_
  refine NWp.condT (t := decide (i1 < (a0.length : Int))) rfl hc5 ?_
  refine NWp.skip ?_
  refine NWp.seq ?_
  refine NWp.block ?_
  obtain ⟨x7, hx7, h⟩ := bindE h
  obtain ⟨r8, hr8, h⟩ := bindE h
  refine NWp.opsJ ⟨tab [(0, .d (eL none (eL none (D.int .u16)) a0)), (1, vl1 a1), (5, vi i1), (17, vb r8)], stab [], 0⟩ ?_ ?_
  ·
   iterate 2 refine q1 _ ?_
   refine step (v := .d (.cptr none (eL none (D.int .u16) x7) 0)) (st_iaddr (xs := a0) (e := (eL none (D.int .u16))) hx7 rfl rfl) ?_
   iterate 2 refine q1 _ ?_
   refine stepC (r := .bool r8) (ArgsOk.dt (ArgsOk.dt ArgsOk.nil')) (c_ref11_Same hr8) ?_
   exact nR []
  by_cases hc9 : r8 = true
  ·
   replace h := iteT hc9 h
   refine NWp.condT (t := r8) rfl hc9 ?_
   refine NWp.opsJ ⟨tab [(4, vi i1)], stab [], 0⟩ ?_ ?_
   ·
    iterate 2 refine q1 _ ?_
    exact nR []
   obtain ⟨r10, kr10, hr⟩ := mapE (o := some i1) (g := Br.ret) h
   subst hr
   have h := kr10
   have hh := Option.some.inj h
   subst hh
   refine NWp.ret ?_
   refine And.intro (fun hn => nomatch hn) ?_
   intro hq
   have hq := hq.symm
   subst hq
   show FQ _ _ _ _
   exact FQ.mk1 (.inr rfl) (res_t (v := vi i1) rfl rfl) (RV.d trivial)
  ·
   replace h := iteF hc9 h
   refine NWp.condF (t := r8) rfl hc9 ?_
   refine NWp.skip ?_
   have hh := Option.some.inj h
   subst hh
   refine NWp.opsE ⟨tab [(0, .d (eL none (eL none (D.int .u16)) a0)), (1, vl1 a1), (5, vi (i1 + 1))], stab [], 0⟩ ?_ ?_
   ·
    refine q1 _ ?_
    refine step (v := vi (i1 + 1)) (st_inc (inc_ok hinv4 hgo3 hB2) rfl rfl) ?_
    refine q1 _ ?_
    exact nR []
   exact And.intro rfl rfl
 ·
  rintro i1 ⟨⟩ hinv4 hgo3
  show NWp _ _ _ _ _ ⟨tab [(0, .d (eL none (eL none (D.int .u16)) a0)), (1, vl1 a1), (5, vi i1)], stab [], 0⟩
  have hc5 : ¬ (decide (i1 < (a0.length : Int)) = true) := fun hq => hgo3 (of_decide_eq_true hq)
  refine NWp.seq ?_
  refine NWp.opsJ ⟨tab [(0, .d (eL none (eL none (D.int .u16)) a0)), (1, vl1 a1), (5, vi i1), (9, vb (decide (i1 < (a0.length : Int))))], stab [], 0⟩ ?_ ?_
  ·
   iterate 2 refine q1 _ ?_
   refine step (v := vi (a0.length : Int)) (st_len (xs := a0) (e := (eL none (D.int .u16))) rfl) ?_
   refine q1 _ ?_
   exact nR []
  refine NWp.condF (t := decide (i1 < (a0.length : Int))) rfl hc5 ?_
  refine NWp.norm (s0 := ⟨tab [], stab [], 0⟩) (nr []) ?_
  refine NWp.exit ?_
  exact And.intro rfl rfl
 ·
  intro r' hq
  subst hq
  exact Option.some.inj h
 rintro ⟨⟩ rfl
 refine NWp.opsJ ⟨tab [(4, vi (-1))], stab [], 0⟩ ?_ ?_
 ·
  refine q1 _ ?_
  exact nR []
 have hh := Option.some.inj h
 subst hh
 refine NWp.ret ?_
 show FQ _ _ _ _
 exact FQ.mk1 (.inr rfl) (res_t (v := vi (-1)) rfl rfl) (RV.d trivial)

theorem c_ref11_round {a0 : api_Space} {r : Bool} (h : ref11_round a0 = some r) : PCall Try.prog 71 [eapi_Space a0] (.bool r) := by
 refine PCall.introN ok71 (show 1 ≤ 75 by decide) ?_
 refine NWp.norm (s0 := ⟨tab [(0, vs1 a0)], stab [], 0⟩) (nr []) ?_
 refine NWp.opsJ ⟨tab [(1, vp0 a0)], stab [], 0⟩ ?_ ?_
 ·
  iterate 2 refine q1 _ ?_
  exact nR []
 obtain ⟨l1, hl1, h⟩ := bindE h
 refine NWp.opsJ ⟨tab [(1, vp0 a0), (3, .loc 0 0 l1.length)], stab [(0, .lst true none (List.map D.bool l1))], 1⟩ ?_ ?_
 ·
  iterate 2 refine q1 _ ?_
  refine step (v := vi (a0.States.length : Int)) (st_len (xs := a0.States) (e := (eL none (D.int .u16))) rfl) ?_
  refine step (v := .loc 0 0 l1.length) (σ' := (upd (stab []) 0 (some (.lst true none (List.map D.bool l1))))) (n' := 1) (st_mk (e := D.bool) (z := false) hl1 rfl rfl (gmk_le hl1)) ?_
  refine q1 _ ?_
  exact nR [0]
 refine NWp.seq ?_
 refine NWp.opsJ ⟨tab [(1, vp0 a0), (3, .loc 0 0 l1.length), (4, vi 0)], stab [(0, .lst true none (List.map D.bool l1))], 1⟩ ?_ ?_
 ·
  refine q1 _ ?_
  exact nR [0]
 obtain ⟨z41, hl, h⟩ := bindE h
 refine NWp.block ?_
 refine loop_forO (cntU (a0.States.length : Int)) (fun (i3 : Int) (qq : (List Bool)) => ⟨tab [(1, vp0 a0), (3, .loc 0 0 qq.length), (4, vi i3)], stab [(0, .lst true none (List.map D.bool qq))], 1⟩) 0 (fun (qq : (List Bool)) => ⟨tab [(3, .loc 0 0 qq.length)], stab [(0, .lst true none (List.map D.bool qq))], 1⟩) Low low_step hl (by unfold Low; omega) ?_ ?_ ?_
 ·
  rintro i3 l2 xr8 hinv6 hgo5 h
  show NWp _ _ _ _ _ ⟨tab [(1, vp0 a0), (3, .loc 0 0 l2.length), (4, vi i3)], stab [(0, .lst true none (List.map D.bool l2))], 1⟩
  have hc7 : decide (i3 < (a0.States.length : Int)) = true := decide_eq_true hgo5
  refine NWp.seq ?_
  refine NWp.opsJ ⟨tab [(1, vp0 a0), (3, .loc 0 0 l2.length), (4, vi i3), (16, vi (a0.States.length : Int)), (17, vb (decide (i3 < (a0.States.length : Int))))], stab [(0, .lst true none (List.map D.bool l2))], 1⟩ ?_ ?_
  ·
   iterate 3 refine q1 _ ?_
   refine step (v := vi (a0.States.length : Int)) (st_len (xs := a0.States) (e := (eL none (D.int .u16))) rfl) ?_
   refine q1 _ ?_
   exact nR [0]
  refine NWp.rng 16 rfl fun hB4 => ?_
  refine NWp.condT (t := decide (i3 < (a0.States.length : Int))) rfl hc7 ?_
  refine NWp.skip ?_
  refine NWp.seq ?_
  refine NWp.block ?_
  refine NWp.opsJ ⟨tab [(1, vp0 a0), (3, .loc 0 0 l2.length), (4, vi i3), (5, vi 0)], stab [(0, .lst true none (List.map D.bool l2))], 1⟩ ?_ ?_
  ·
   refine q1 _ ?_
   exact nR [0]
  obtain ⟨z39, hl, h⟩ := bindE h
  refine NWp.block ?_
  refine loop_forO (cntU (a0.States.length : Int)) (fun (i10 : Int) (qq : (List Bool)) => ⟨tab [(1, vp0 a0), (3, .loc 0 0 qq.length), (4, vi i3), (5, vi i10)], stab [(0, .lst true none (List.map D.bool qq))], 1⟩) 2 (fun (qq : (List Bool)) => ⟨tab [(1, vp0 a0), (3, .loc 0 0 qq.length), (4, vi i3)], stab [(0, .lst true none (List.map D.bool qq))], 1⟩) Low low_step hl (by unfold Low; omega) ?_ ?_ ?_
  ·
   rintro i10 l9 xr15 hinv13 hgo12 h
   show NWp _ _ _ _ _ ⟨tab [(1, vp0 a0), (3, .loc 0 0 l9.length), (4, vi i3), (5, vi i10)], stab [(0, .lst true none (List.map D.bool l9))], 1⟩
   have hc14 : decide (i10 < (a0.States.length : Int)) = true := decide_eq_true hgo12
   refine NWp.seq ?_
   refine NWp.opsJ ⟨tab [(1, vp0 a0), (3, .loc 0 0 l9.length), (4, vi i3), (5, vi i10), (23, vi (a0.States.length : Int)), (24, vb (decide (i10 < (a0.States.length : Int))))], stab [(0, .lst true none (List.map D.bool l9))], 1⟩ ?_ ?_
   ·
    iterate 3 refine q1 _ ?_
    refine step (v := vi (a0.States.length : Int)) (st_len (xs := a0.States) (e := (eL none (D.int .u16))) rfl) ?_
    refine q1 _ ?_
    exact nR [0]
   refine NWp.rng 23 rfl fun hB11 => ?_
   refine NWp.condT (t := decide (i10 < (a0.States.length : Int))) rfl hc14 ?_
   refine NWp.skip ?_
   refine NWp.seq ?_
   refine NWp.block ?_
   refine NWp.opsJ ⟨tab [(1, vp0 a0), (3, .loc 0 0 l9.length), (4, vi i3), (5, vi i10), (6, vb true)], stab [(0, .lst true none (List.map D.bool l9))], 1⟩ ?_ ?_
   ·
    refine q1 _ ?_
    exact nR [0]
   refine NWp.seq ?_
   refine NWp.opsJ ⟨tab [(1, vp0 a0), (3, .loc 0 0 l9.length), (4, vi i3), (5, vi i10), (6, vb true), (7, vi 0)], stab [(0, .lst true none (List.map D.bool l9))], 1⟩ ?_ ?_
   ·
    refine q1 _ ?_
    exact nR [0]
   obtain ⟨z31, hl, h⟩ := bindE h
   refine NWp.block ?_
   refine loop_forO (cntU (a0.Edges.length : Int)) (fun (i17 : Int) (qq : Bool) => ⟨tab [(1, vp0 a0), (3, .loc 0 0 l9.length), (4, vi i3), (5, vi i10), (6, vb qq), (7, vi i17)], stab [(0, .lst true none (List.map D.bool l9))], 1⟩) 4 (fun (qq : Bool) => ⟨tab [(1, vp0 a0), (3, .loc 0 0 l9.length), (4, vi i3), (5, vi i10), (6, vb qq)], stab [(0, .lst true none (List.map D.bool l9))], 1⟩) Low low_step hl (by unfold Low; omega) ?_ ?_ ?_
   ·
    rintro i17 y16 xr22 hinv20 hgo19 h
    show NWp _ _ _ _ _ ⟨tab [(1, vp0 a0), (3, .loc 0 0 l9.length), (4, vi i3), (5, vi i10), (6, vb y16), (7, vi i17)], stab [(0, .lst true none (List.map D.bool l9))], 1⟩
    have hc21 : decide (i17 < (a0.Edges.length : Int)) = true := decide_eq_true hgo19
    refine NWp.seq ?_
    refine NWp.opsJ ⟨tab [(1, vp0 a0), (3, .loc 0 0 l9.length), (4, vi i3), (5, vi i10), (6, vb y16), (7, vi i17), (30, vi (a0.Edges.length : Int)), (31, vb (decide (i17 < (a0.Edges.length : Int))))], stab [(0, .lst true none (List.map D.bool l9))], 1⟩ ?_ ?_
    ·
     iterate 3 refine q1 _ ?_
     refine step (v := vi (a0.Edges.length : Int)) (st_len (xs := a0.Edges) (e := eapi_Edge) rfl) ?_
     refine q1 _ ?_
     exact nR [0]
    refine NWp.rng 30 rfl fun hB18 => ?_
    refine NWp.condT (t := decide (i17 < (a0.Edges.length : Int))) rfl hc21 ?_
    refine NWp.skip ?_
    obtain ⟨y29, hv, h⟩ := bindE h
    refine NWp.seqN ⟨tab [(1, vp0 a0), (3, .loc 0 0 l9.length), (4, vi i3), (5, vi i10), (6, vb y29), (7, vi i17)], stab [(0, .lst true none (List.map D.bool l9))], 1⟩ ?_ ?_
    ·
     replace h := hv
     refine NWp.block ?_
     obtain ⟨x23, hx23, h⟩ := bindE h
     obtain ⟨y26, hv, h⟩ := bindE h
     refine NWp.opsJ ⟨tab [(1, vp0 a0), (3, .loc 0 0 l9.length), (4, vi i3), (5, vi i10), (6, vb y16), (7, vi i17), (53, vb y26)], stab [(0, .lst true none (List.map D.bool l9))], 1⟩ ?_ ?_
     ·
      iterate 3 refine q1 _ ?_
      refine step (v := vp5 x23) (st_iaddr (xs := a0.Edges) (e := eapi_Edge) hx23 rfl rfl) ?_
      iterate 5 refine q1 _ ?_
      by_cases hg24 : (x23.From == i10) = true
      ·
       replace hv := iteT hg24 hv
       obtain ⟨x25, hx25, hv⟩ := bindE hv
       refine qG _ hg24 ?_
       refine q1 _ ?_
       refine qG _ hg24 ?_
       refine q1 _ ?_
       refine qG _ hg24 ?_
       refine q1 _ ?_
       refine qG _ hg24 ?_
       refine q1 _ ?_
       refine qG _ hg24 ?_
       refine step (v := vp5 x23) (st_iaddr (xs := a0.Edges) (e := eapi_Edge) hx23 rfl rfl) ?_
       refine qG _ hg24 ?_
       refine q1 _ ?_
       refine qG _ hg24 ?_
       refine q1 _ ?_
       refine qG _ hg24 ?_
       refine step (v := .ptr 0 x23.To.toNat 0) (st_iaddrL (xs := l9) (e := D.bool) hx25 rfl rfl rfl rfl) ?_
       refine qG _ hg24 ?_
       refine step (v := vb x25) (st_loadL (xs := l9) (e := D.bool) hx25 rfl rfl rfl) ?_
       refine qG _ hg24 ?_
       refine q1 _ ?_
       refine step (v := vb (!x25)) (st_pickT (b := (x23.From == i10)) rfl hg24 rfl) ?_
       have hh := Option.some.inj hv
       subst hh
       exact nR [0]
      ·
       replace hv := iteF hg24 hv
       iterate 10 refine qX _ hg24 ?_
       refine step (v := vb false) (st_pickF (b := (x23.From == i10)) rfl hg24 rfl) ?_
       have hh := Option.some.inj hv
       subst hh
       exact nR [0]
     by_cases hc28 : y26 = true
     ·
      replace h := iteT hc28 h
      refine NWp.condT (t := y26) rfl hc28 ?_
      have hh := Option.some.inj h
      subst hh
      refine NWp.opsE ⟨tab [(1, vp0 a0), (3, .loc 0 0 l9.length), (4, vi i3), (5, vi i10), (6, vb false), (7, vi i17)], stab [(0, .lst true none (List.map D.bool l9))], 1⟩ ?_ ?_
      ·
       refine q1 _ ?_
       exact nR [0]
      exact And.intro rfl rfl
     ·
      replace h := iteF hc28 h
      refine NWp.condF (t := y26) rfl hc28 ?_
      have hh := Option.some.inj h
      subst hh
      refine NWp.norm (s0 := ⟨tab [(1, vp0 a0), (3, .loc 0 0 l9.length), (4, vi i3), (5, vi i10), (6, vb y16), (7, vi i17)], stab [(0, .lst true none (List.map D.bool l9))], 1⟩) (nr [0]) ?_
      refine NWp.skip ?_
      exact And.intro rfl rfl
    have hh := Option.some.inj h
    subst hh
    refine NWp.opsE ⟨tab [(1, vp0 a0), (3, .loc 0 0 l9.length), (4, vi i3), (5, vi i10), (6, vb y29), (7, vi (i17 + 1))], stab [(0, .lst true none (List.map D.bool l9))], 1⟩ ?_ ?_
    ·
     refine q1 _ ?_
     refine step (v := vi (i17 + 1)) (st_inc (inc_ok hinv20 hgo19 hB18) rfl rfl) ?_
     refine q1 _ ?_
     exact nR [0]
    exact And.intro rfl rfl
   ·
    rintro i17 y16 hinv20 hgo19
    show NWp _ _ _ _ _ ⟨tab [(1, vp0 a0), (3, .loc 0 0 l9.length), (4, vi i3), (5, vi i10), (6, vb y16), (7, vi i17)], stab [(0, .lst true none (List.map D.bool l9))], 1⟩
    have hc21 : ¬ (decide (i17 < (a0.Edges.length : Int)) = true) := fun hq => hgo19 (of_decide_eq_true hq)
    refine NWp.seq ?_
    refine NWp.opsJ ⟨tab [(1, vp0 a0), (3, .loc 0 0 l9.length), (4, vi i3), (5, vi i10), (6, vb y16), (7, vi i17), (31, vb (decide (i17 < (a0.Edges.length : Int))))], stab [(0, .lst true none (List.map D.bool l9))], 1⟩ ?_ ?_
    ·
     iterate 3 refine q1 _ ?_
     refine step (v := vi (a0.Edges.length : Int)) (st_len (xs := a0.Edges) (e := eapi_Edge) rfl) ?_
     refine q1 _ ?_
     exact nR [0]
    refine NWp.condF (t := decide (i17 < (a0.Edges.length : Int))) rfl hc21 ?_
    refine NWp.norm (s0 := ⟨tab [(1, vp0 a0), (3, .loc 0 0 l9.length), (4, vi i3), (5, vi i10), (6, vb y16)], stab [(0, .lst true none (List.map D.bool l9))], 1⟩) (nr [0]) ?_
    refine NWp.exit ?_
    exact And.intro rfl rfl
   obtain ⟨x32, hx32, h⟩ := bindE h
   obtain ⟨l36, hv, h⟩ := bindE h
   refine NWp.opsE ⟨tab [(1, vp0 a0), (3, .loc 0 0 l36.length), (4, vi i3), (5, vi i10)], stab [(0, .lst true none (List.map D.bool l36))], 1⟩ ?_ ?_
   ·
    iterate 4 refine q1 _ ?_
    refine step (v := .ptr 0 i10.toNat 0) (st_iaddrL (xs := l9) (e := D.bool) hx32 rfl rfl rfl rfl) ?_
    refine step (v := vb x32) (st_loadL (xs := l9) (e := D.bool) hx32 rfl rfl rfl) ?_
    refine q1 _ ?_
    by_cases hg33 : x32 = true
    ·
     replace hv := iteT hg33 hv
     obtain ⟨l34, hl34, hv⟩ := bindE hv
     refine qX x32 (by rw [hg33]; decide) ?_
     refine step (v := vb true) (st_pickT (b := x32) rfl hg33 rfl) ?_
     refine step (v := .ptr 0 i10.toNat 0) (st_iaddrL (xs := l9) (e := D.bool) hx32 rfl rfl rfl rfl) ?_
     refine step (v := V.undef) (σ' := (upd (stab [(0, .lst true none (List.map D.bool l9))]) 0 (some (.lst true none (List.map D.bool l34))))) (n' := 1) (st_storeL' (e := D.bool) (v' := true) hl34 rfl rfl rfl rfl rfl) ?_
     have hh := Option.some.inj hv
     subst hh
     exact RunOps.nil' (nm [0] ⟨.d _, .le (id := 0) (gput_len hl34).symm (show 0 < 1 by decide), .d _, .d _, trivial⟩ ⟨⟨show 0 < 1 by decide, _, rfl, .lst _ _ _⟩, trivial⟩)
    ·
     replace hv := iteF hg33 hv
     obtain ⟨l35, hl35, hv⟩ := bindE hv
     refine qG x32 (Bool.eq_false_iff.2 hg33) ?_
     refine q1 _ ?_
     refine step (v := vb z31) (st_pickF (b := x32) rfl hg33 rfl) ?_
     refine step (v := .ptr 0 i10.toNat 0) (st_iaddrL (xs := l9) (e := D.bool) hx32 rfl rfl rfl rfl) ?_
     refine step (v := V.undef) (σ' := (upd (stab [(0, .lst true none (List.map D.bool l9))]) 0 (some (.lst true none (List.map D.bool l35))))) (n' := 1) (st_storeL' (e := D.bool) (v' := z31) hl35 rfl rfl rfl rfl rfl) ?_
     have hh := Option.some.inj hv
     subst hh
     exact RunOps.nil' (nm [0] ⟨.d _, .le (id := 0) (gput_len hl35).symm (show 0 < 1 by decide), .d _, .d _, trivial⟩ ⟨⟨show 0 < 1 by decide, _, rfl, .lst _ _ _⟩, trivial⟩)
   have hh := Option.some.inj h
   subst hh
   refine NWp.opsE ⟨tab [(1, vp0 a0), (3, .loc 0 0 l36.length), (4, vi i3), (5, vi (i10 + 1))], stab [(0, .lst true none (List.map D.bool l36))], 1⟩ ?_ ?_
   ·
    refine q1 _ ?_
    refine step (v := vi (i10 + 1)) (st_inc (inc_ok hinv13 hgo12 hB11) rfl rfl) ?_
    refine q1 _ ?_
    exact nR [0]
   exact And.intro rfl rfl
  ·
   rintro i10 l9 hinv13 hgo12
   show NWp _ _ _ _ _ ⟨tab [(1, vp0 a0), (3, .loc 0 0 l9.length), (4, vi i3), (5, vi i10)], stab [(0, .lst true none (List.map D.bool l9))], 1⟩
   have hc14 : ¬ (decide (i10 < (a0.States.length : Int)) = true) := fun hq => hgo12 (of_decide_eq_true hq)
   refine NWp.seq ?_
   refine NWp.opsJ ⟨tab [(1, vp0 a0), (3, .loc 0 0 l9.length), (4, vi i3), (5, vi i10), (24, vb (decide (i10 < (a0.States.length : Int))))], stab [(0, .lst true none (List.map D.bool l9))], 1⟩ ?_ ?_
   ·
    iterate 3 refine q1 _ ?_
    refine step (v := vi (a0.States.length : Int)) (st_len (xs := a0.States) (e := (eL none (D.int .u16))) rfl) ?_
    refine q1 _ ?_
    exact nR [0]
   refine NWp.condF (t := decide (i10 < (a0.States.length : Int))) rfl hc14 ?_
   refine NWp.norm (s0 := ⟨tab [(1, vp0 a0), (3, .loc 0 0 l9.length), (4, vi i3)], stab [(0, .lst true none (List.map D.bool l9))], 1⟩) (nr [0]) ?_
   refine NWp.exit ?_
   exact And.intro rfl rfl
  have hh := Option.some.inj h
  subst hh
  refine NWp.opsE ⟨tab [(1, vp0 a0), (3, .loc 0 0 z39.length), (4, vi (i3 + 1))], stab [(0, .lst true none (List.map D.bool z39))], 1⟩ ?_ ?_
  ·
   refine q1 _ ?_
   refine step (v := vi (i3 + 1)) (st_inc (inc_ok hinv6 hgo5 hB4) rfl rfl) ?_
   refine q1 _ ?_
   exact nR [0]
  exact And.intro rfl rfl
 ·
  rintro i3 l2 hinv6 hgo5
  show NWp _ _ _ _ _ ⟨tab [(1, vp0 a0), (3, .loc 0 0 l2.length), (4, vi i3)], stab [(0, .lst true none (List.map D.bool l2))], 1⟩
  have hc7 : ¬ (decide (i3 < (a0.States.length : Int)) = true) := fun hq => hgo5 (of_decide_eq_true hq)
  refine NWp.seq ?_
  refine NWp.opsJ ⟨tab [(1, vp0 a0), (3, .loc 0 0 l2.length), (4, vi i3), (17, vb (decide (i3 < (a0.States.length : Int))))], stab [(0, .lst true none (List.map D.bool l2))], 1⟩ ?_ ?_
  ·
   iterate 3 refine q1 _ ?_
   refine step (v := vi (a0.States.length : Int)) (st_len (xs := a0.States) (e := (eL none (D.int .u16))) rfl) ?_
   refine q1 _ ?_
   exact nR [0]
  refine NWp.condF (t := decide (i3 < (a0.States.length : Int))) rfl hc7 ?_
  refine NWp.norm (s0 := ⟨tab [(3, .loc 0 0 l2.length)], stab [(0, .lst true none (List.map D.bool l2))], 1⟩) (nr [0]) ?_
  refine NWp.exit ?_
  exact And.intro rfl rfl
 refine NWp.seq ?_
 refine NWp.opsJ ⟨tab [(3, .loc 0 0 z41.length), (8, vi 0)], stab [(0, .lst true none (List.map D.bool z41))], 1⟩ ?_ ?_
 ·
  refine q1 _ ?_
  exact nR [0]
 obtain ⟨q50, hl, h⟩ := bindE h
 refine NWp.block ?_
 refine loop_forR (cntU (z41.length : Int)) (fun (i42 : Int) (qq : Unit) => ⟨tab [(3, .loc 0 0 z41.length), (8, vi i42)], stab [(0, .lst true none (List.map D.bool z41))], 1⟩) 6 (fun (qq : Unit) => ⟨tab [], stab [], 0⟩) Low low_step (r := r) hl (by unfold Low; omega) ?_ ?_ ?_ ?_
 ·
  rintro i42 ⟨⟩ xr47 hinv45 hgo44 h
  show NWp _ _ _ _ _ ⟨tab [(3, .loc 0 0 z41.length), (8, vi i42)], stab [(0, .lst true none (List.map D.bool z41))], 1⟩
  have hc46 : decide (i42 < (z41.length : Int)) = true := decide_eq_true hgo44
  refine NWp.seq ?_
  refine NWp.opsJ ⟨tab [(3, .loc 0 0 z41.length), (8, vi i42), (66, vi (z41.length : Int)), (67, vb (decide (i42 < (z41.length : Int))))], stab [(0, .lst true none (List.map D.bool z41))], 1⟩ ?_ ?_
  ·
   iterate 4 refine q1 _ ?_
   exact nR [0]
  refine NWp.rng 66 rfl fun hB43 => ?_
  refine NWp.condT (t := decide (i42 < (z41.length : Int))) rfl hc46 ?_
  refine NWp.skip ?_
  refine NWp.seq ?_
  refine NWp.block ?_
  obtain ⟨x48, hx48, h⟩ := bindE h
  refine NWp.opsJ ⟨tab [(3, .loc 0 0 z41.length), (8, vi i42), (74, vb (!x48))], stab [(0, .lst true none (List.map D.bool z41))], 1⟩ ?_ ?_
  ·
   iterate 2 refine q1 _ ?_
   refine step (v := .ptr 0 i42.toNat 0) (st_iaddrL (xs := z41) (e := D.bool) hx48 rfl rfl rfl rfl) ?_
   refine step (v := vb x48) (st_loadL (xs := z41) (e := D.bool) hx48 rfl rfl rfl) ?_
   refine q1 _ ?_
   exact nR [0]
  by_cases hc49 : (!x48) = true
  ·
   replace h := iteT hc49 h
   refine NWp.condT (t := (!x48)) rfl hc49 ?_
   refine NWp.opsJ ⟨tab [(2, vb true)], stab [], 0⟩ ?_ ?_
   ·
    refine q1 _ ?_
    exact nR []
   obtain ⟨r50, kr50, hr⟩ := mapE (o := some true) (g := Br.ret) h
   subst hr
   have h := kr50
   have hh := Option.some.inj h
   subst hh
   refine NWp.ret ?_
   refine And.intro (fun hn => nomatch hn) ?_
   intro hq
   have hq := hq.symm
   subst hq
   show FQ _ _ _ _
   exact FQ.mk1 (.inr rfl) (res_t (v := vb true) rfl rfl) (RV.d trivial)
  ·
   replace h := iteF hc49 h
   refine NWp.condF (t := (!x48)) rfl hc49 ?_
   refine NWp.skip ?_
   have hh := Option.some.inj h
   subst hh
   refine NWp.opsE ⟨tab [(3, .loc 0 0 z41.length), (8, vi (i42 + 1))], stab [(0, .lst true none (List.map D.bool z41))], 1⟩ ?_ ?_
   ·
    refine q1 _ ?_
    refine step (v := vi (i42 + 1)) (st_inc (inc_ok hinv45 hgo44 hB43) rfl rfl) ?_
    refine q1 _ ?_
    exact nR [0]
   exact And.intro rfl rfl
 ·
  rintro i42 ⟨⟩ hinv45 hgo44
  show NWp _ _ _ _ _ ⟨tab [(3, .loc 0 0 z41.length), (8, vi i42)], stab [(0, .lst true none (List.map D.bool z41))], 1⟩
  have hc46 : ¬ (decide (i42 < (z41.length : Int)) = true) := fun hq => hgo44 (of_decide_eq_true hq)
  refine NWp.seq ?_
  refine NWp.opsJ ⟨tab [(3, .loc 0 0 z41.length), (8, vi i42), (67, vb (decide (i42 < (z41.length : Int))))], stab [(0, .lst true none (List.map D.bool z41))], 1⟩ ?_ ?_
  ·
   iterate 4 refine q1 _ ?_
   exact nR [0]
  refine NWp.condF (t := decide (i42 < (z41.length : Int))) rfl hc46 ?_
  refine NWp.norm (s0 := ⟨tab [], stab [], 0⟩) (nr []) ?_
  refine NWp.exit ?_
  exact And.intro rfl rfl
 ·
  intro r' hq
  subst hq
  exact Option.some.inj h
 rintro ⟨⟩ rfl
 refine NWp.opsJ ⟨tab [(2, vb false)], stab [], 0⟩ ?_ ?_
 ·
  refine q1 _ ?_
  exact nR []
 have hh := Option.some.inj h
 subst hh
 refine NWp.ret ?_
 show FQ _ _ _ _
 exact FQ.mk1 (.inr rfl) (res_t (v := vb false) rfl rfl) (RV.d trivial)

theorem c_ref11_Explore {a0 : api_Program} {r : (api_Space × Int)} (h : ref11_Explore a0 = some r) : PCall Try.prog 26 [eapi_Program a0] (.tup [eapi_Space r.1, .int .i64 r.2]) := by
 refine PCall.introN ok26 (show 1 ≤ 101 by decide) ?_
 refine NWp.norm (s0 := ⟨tab [(0, vs3 a0)], stab [], 0⟩) (nr []) ?_
 refine NWp.opsJ ⟨tab [(1, vp2 a0), (2, .ptr 0 0 0)], stab [(0, .var [.d (eL none (eL none (D.int .u16)) []), vl0 []])], 1⟩ ?_ ?_
 ·
  refine q1 _ ?_
  refine step (v := .ptr 0 0 0) (σ' := (upd (stab []) 0 (some (.var [.d (eL none (eL none (D.int .u16)) []), vl0 []])))) (n' := 1) rfl ?_
  refine q1 _ ?_
  exact nR [0]
 refine NWp.opsJ ⟨tab [(1, vp2 a0), (2, .ptr 0 0 0), (4, .ptr 1 0 0)], stab [(0, .var [.d (eL none (eL none (D.int .u16)) []), vl0 []]), (1, .var [.d (eL none (eL none (D.int .u16)) []), vl0 []])], 2⟩ ?_ ?_
 ·
  refine step (v := vs1 (api_Space.mk [] [])) (st_build (ds := [eL none (eL none (D.int .u16)) [], eL (some 3) eapi_Edge []]) rfl) ?_
  refine step (v := .ptr 1 0 0) (σ' := (upd (stab [(0, .var [.d (eL none (eL none (D.int .u16)) []), vl0 []])]) 1 (some (.var [.d (eL none (eL none (D.int .u16)) []), vl0 []])))) (n' := 2) rfl ?_
  refine step (v := V.undef) (σ' := (upd (upd (stab [(0, .var [.d (eL none (eL none (D.int .u16)) []), vl0 []])]) 1 (some (.var [.d (eL none (eL none (D.int .u16)) []), vl0 []]))) 1 (some (.var [.d (eL none (eL none (D.int .u16)) []), vl0 []])))) (n' := 2) rfl ?_
  exact nR [0, 1]
 obtain ⟨r1, hr1, h⟩ := bindE h
 refine NWp.opsJ ⟨tab [(1, vp2 a0), (2, .ptr 0 0 0), (4, .ptr 1 0 0), (5, vi r1)], stab [(0, .var [.d (eL none (eL none (D.int .u16)) []), vl0 []]), (1, .var [.d (eL none (eL none (D.int .u16)) []), vl0 []])], 2⟩ ?_ ?_
 ·
  refine q1 _ ?_
  refine stepC (r := .int .i64 r1) (ArgsOk.dt ArgsOk.nil') (c_ref05_Check hr1) ?_
  refine q1 _ ?_
  exact nR [0, 1]
 refine NWp.seq ?_
 refine NWp.opsJ ⟨tab [(1, vp2 a0), (2, .ptr 0 0 0), (4, .ptr 1 0 0), (5, vi r1), (15, vb (r1 != 0))], stab [(0, .var [.d (eL none (eL none (D.int .u16)) []), vl0 []]), (1, .var [.d (eL none (eL none (D.int .u16)) []), vl0 []])], 2⟩ ?_ ?_
 ·
  iterate 2 refine q1 _ ?_
  exact nR [0, 1]
 by_cases hc2 : (r1 != 0) = true
 ·
  replace h := iteT hc2 h
  refine NWp.condT (t := (r1 != 0)) rfl hc2 ?_
  refine NWp.opsJ ⟨tab [(2, .ptr 0 0 0), (3, vi r1)], stab [(0, .var [.d (eL none (eL none (D.int .u16)) []), vl0 []])], 1⟩ ?_ ?_
  ·
   refine step (v := vs1 (api_Space.mk [] [])) (st_ldV (ds := [eL none (eL none (D.int .u16)) [], eL (some 3) eapi_Edge []]) rfl rfl (show 2 ≤ 2 by decide) rfl) ?_
   refine q1 _ ?_
   refine step (v := V.undef) (σ' := (upd (stab [(0, .var [.d (eL none (eL none (D.int .u16)) []), vl0 []]), (1, .var [.d (eL none (eL none (D.int .u16)) []), vl0 []])]) 0 (some (.var [.d (eL none (eL none (D.int .u16)) []), vl0 []])))) (n' := 2) rfl ?_
   refine q1 _ ?_
   exact nR [0]
  have hh := Option.some.inj h
  subst hh
  refine NWp.ret ?_
  show FQ _ _ _ _
  exact FQ.mkT (.inr rfl) (res_cell (ds := [eL none (eL none (D.int .u16)) [], eL (some 3) eapi_Edge []]) rfl rfl (show 2 ≤ 2 by decide) rfl (res_t (v := vi r1) rfl rfl)) (RV.d (RV.d trivial))
 ·
  replace h := iteF hc2 h
  refine NWp.condF (t := (r1 != 0)) rfl hc2 ?_
  refine NWp.skip ?_
  obtain ⟨l3, hl3, h⟩ := bindE h
  refine NWp.opsJ ⟨tab [(1, vp2 a0), (2, .ptr 0 0 0), (4, .ptr 1 0 0), (6, .ptr 2 0 0)], stab [(0, .var [.d (eL none (eL none (D.int .u16)) []), vl0 []]), (1, .var [.d (eL none (eL none (D.int .u16)) []), vl0 []]), (2, .var [.loc 3 0 (([l3] : List (List Int)).length), .d (.nils)]), (3, .lst false none (List.map (eL none (D.int .u16)) ([l3] : List (List Int))))], 4⟩ ?_ ?_
  ·
   refine step (v := .loc 2 0 (([] : List Int).length)) (σ' := (upd (stab [(0, .var [.d (eL none (eL none (D.int .u16)) []), vl0 []]), (1, .var [.d (eL none (eL none (D.int .u16)) []), vl0 []])]) 2 (some (.lst false none (List.map (D.int .u16) ([] : List Int)))))) (n' := 3) rfl ?_
   iterate 2 refine q1 _ ?_
   refine step (v := .loc 3 0 l3.length) (σ' := (upd (upd (upd (stab [(0, .var [.d (eL none (eL none (D.int .u16)) []), vl0 []]), (1, .var [.d (eL none (eL none (D.int .u16)) []), vl0 []])]) 2 (some (.lst false none (List.map (D.int .u16) ([] : List Int))))) 2 none) 3 (some (.lst false none (List.map (D.int .u16) l3))))) (n' := 4) (st_app (xs := ([] : List Int)) (ys := a0.Init) (e := (D.int .u16)) hl3 rfl rfl rfl (src_v (xs := a0.Init) (e := (D.int .u16)) rfl)) ?_
   refine step (v := .loc 4 0 (([l3] : List (List Int)).length)) (σ' := (upd (upd (upd (upd (stab [(0, .var [.d (eL none (eL none (D.int .u16)) []), vl0 []]), (1, .var [.d (eL none (eL none (D.int .u16)) []), vl0 []])]) 2 (some (.lst false none (List.map (D.int .u16) ([] : List Int))))) 2 none) 3 (some (.lst false none (List.map (D.int .u16) l3)))) 4 (some (.lst false none (List.map (eL none (D.int .u16)) ([l3] : List (List Int))))))) (n' := 5) (st_bsliceV (ds := List.map (eL none (D.int .u16)) ([l3] : List (List Int))) (optC (f := fun x => viewA _ (evT _ x)) (va_l (xs := l3) (e := (D.int .u16)) rfl rfl) optN) rfl) ?_
   refine q1 _ ?_
   refine step (v := .ptr 5 0 0) (σ' := (upd (upd (upd (upd (upd (stab [(0, .var [.d (eL none (eL none (D.int .u16)) []), vl0 []]), (1, .var [.d (eL none (eL none (D.int .u16)) []), vl0 []])]) 2 (some (.lst false none (List.map (D.int .u16) ([] : List Int))))) 2 none) 3 (some (.lst false none (List.map (D.int .u16) l3)))) 4 (some (.lst false none (List.map (eL none (D.int .u16)) ([l3] : List (List Int)))))) 5 (some (.var [.d (.nils), .d (.nils)])))) (n' := 6) rfl ?_
   refine step (v := V.undef) (σ' := (upd (upd (upd (upd (upd (upd (stab [(0, .var [.d (eL none (eL none (D.int .u16)) []), vl0 []]), (1, .var [.d (eL none (eL none (D.int .u16)) []), vl0 []])]) 2 (some (.lst false none (List.map (D.int .u16) ([] : List Int))))) 2 none) 3 (some (.lst false none (List.map (D.int .u16) l3)))) 4 (some (.lst false none (List.map (eL none (D.int .u16)) ([l3] : List (List Int)))))) 5 (some (.var [.d (.nils), .d (.nils)]))) 5 (some (.var [.loc 4 0 (([l3] : List (List Int)).length), .d (.nils)])))) (n' := 6) rfl ?_
   exact nR [0, 1, 5, 4]
  refine NWp.seq ?_
  refine NWp.opsJ ⟨tab [(1, vp2 a0), (2, .ptr 0 0 0), (4, .ptr 1 0 0), (6, .ptr 2 0 0), (7, vi 0)], stab [(0, .var [.d (eL none (eL none (D.int .u16)) []), vl0 []]), (1, .var [.d (eL none (eL none (D.int .u16)) []), vl0 []]), (2, .var [.loc 3 0 (([l3] : List (List Int)).length), .d (.nils)]), (3, .lst false none (List.map (eL none (D.int .u16)) ([l3] : List (List Int))))], 4⟩ ?_ ?_
  ·
   refine q1 _ ?_
   exact nR [0, 1, 2, 3]
  obtain ⟨q43, hl, h⟩ := bindE h
  refine NWp.norm (s0 := ⟨tab [(1, vp2 a0), (2, .ptr 0 0 0), (4, .ptr 1 0 0), (6, .ptr 2 0 0), (7, vi 0)], stab [(0, .var [.d (eL none (eL none (D.int .u16)) []), vl0 []]), (1, .var [.d (eL none (eL none (D.int .u16)) []), vl0 []]), (2, .var [.loc 3 0 (([l3] : List (List Int)).length), .loc 4 0 (([] : List api_Edge).length)]), (3, .lst false none (List.map (eL none (D.int .u16)) ([l3] : List (List Int)))), (4, .lst false (some 3) (List.map eapi_Edge ([] : List api_Edge)))], 5⟩) (Norm.trans (s2 := ⟨tab [(1, vp2 a0), (2, .ptr 0 0 0), (4, .ptr 1 0 0), (6, .ptr 2 0 0), (7, vi 0)], stab [(0, .var [.d (eL none (eL none (D.int .u16)) []), vl0 []]), (1, .var [.d (eL none (eL none (D.int .u16)) []), vl0 []]), (2, .var [.loc 3 0 (([l3] : List (List Int)).length), .loc 4 0 (([] : List api_Edge).length)]), (3, .lst false none (List.map (eL none (D.int .u16)) ([l3] : List (List Int)))), (4, .lst false (some 3) (List.map eapi_Edge ([] : List api_Edge)))], 5⟩) (Norm.nilcell 2 1 false (some 3) rfl rfl (show 2 ≠ 4 by decide)) (nr [0, 1, 2, 3, 4])) ?_
  refine NWp.block ?_
  refine loop_whR (fun (qq : ((List (List Int)) × (List api_Edge) × Int)) => ⟨tab [(1, vp2 a0), (2, .ptr 0 0 0), (4, .ptr 1 0 0), (6, .ptr 2 0 0), (7, vi qq.2.2)], stab [(0, .var [.d (eL none (eL none (D.int .u16)) []), vl0 []]), (1, .var [.d (eL none (eL none (D.int .u16)) []), vl0 []]), (2, .var [.loc 3 0 qq.1.length, .loc 4 0 qq.2.1.length]), (3, .lst false none (List.map (eL none (D.int .u16)) qq.1)), (4, .lst false (some 3) (List.map eapi_Edge qq.2.1))], 5⟩) 0 (fun (qq : ((List (List Int)) × (List api_Edge) × Int)) => ⟨tab [(2, .ptr 0 0 0), (4, .ptr 1 0 0), (6, .ptr 2 0 0)], stab [(0, .var [.d (eL none (eL none (D.int .u16)) []), vl0 []]), (1, .var [.d (eL none (eL none (D.int .u16)) []), vl0 []]), (2, .var [.loc 3 0 qq.1.length, .loc 4 0 qq.2.1.length]), (3, .lst false none (List.map (eL none (D.int .u16)) qq.1)), (4, .lst false (some 3) (List.map eapi_Edge qq.2.1))], 5⟩) (r := r) hl ?_ ?_ ?_
  ·
   rintro ⟨l4, l5, i6⟩ xr7 h
   show NWp _ _ _ _ _ ⟨tab [(1, vp2 a0), (2, .ptr 0 0 0), (4, .ptr 1 0 0), (6, .ptr 2 0 0), (7, vi i6)], stab [(0, .var [.d (eL none (eL none (D.int .u16)) []), vl0 []]), (1, .var [.d (eL none (eL none (D.int .u16)) []), vl0 []]), (2, .var [.loc 3 0 l4.length, .loc 4 0 l5.length]), (3, .lst false none (List.map (eL none (D.int .u16)) l4)), (4, .lst false (some 3) (List.map eapi_Edge l5))], 5⟩
   refine NWp.seq ?_
   refine NWp.opsJ ⟨tab [(1, vp2 a0), (2, .ptr 0 0 0), (4, .ptr 1 0 0), (6, .ptr 2 0 0), (7, vi i6), (28, vb (decide (i6 < (l4.length : Int))))], stab [(0, .var [.d (eL none (eL none (D.int .u16)) []), vl0 []]), (1, .var [.d (eL none (eL none (D.int .u16)) []), vl0 []]), (2, .var [.loc 3 0 l4.length, .loc 4 0 l5.length]), (3, .lst false none (List.map (eL none (D.int .u16)) l4)), (4, .lst false (some 3) (List.map eapi_Edge l5))], 5⟩ ?_ ?_
   ·
    iterate 5 refine q1 _ ?_
    exact nR [0, 1, 2, 3, 4]
   by_cases hc8 : decide (i6 < (l4.length : Int)) = true
   ·
    replace h := iteT hc8 h
    refine NWp.condT (t := decide (i6 < (l4.length : Int))) rfl hc8 ?_
    refine NWp.skip ?_
    refine NWp.seq ?_
    refine NWp.block ?_
    refine NWp.opsJ ⟨tab [(1, vp2 a0), (2, .ptr 0 0 0), (4, .ptr 1 0 0), (6, .ptr 2 0 0), (7, vi i6), (8, vi 0)], stab [(0, .var [.d (eL none (eL none (D.int .u16)) []), vl0 []]), (1, .var [.d (eL none (eL none (D.int .u16)) []), vl0 []]), (2, .var [.loc 3 0 l4.length, .loc 4 0 l5.length]), (3, .lst false none (List.map (eL none (D.int .u16)) l4)), (4, .lst false (some 3) (List.map eapi_Edge l5))], 5⟩ ?_ ?_
    ·
     refine q1 _ ?_
     exact nR [0, 1, 2, 3, 4]
    obtain ⟨q37, hl, h⟩ := bindE h
    refine NWp.block ?_
    refine loop_forR (cntU (a0.Rules.length : Int)) (fun (i11 : Int) (qq : ((List (List Int)) × (List api_Edge))) => ⟨tab [(1, vp2 a0), (2, .ptr 0 0 0), (4, .ptr 1 0 0), (6, .ptr 2 0 0), (7, vi i6), (8, vi i11)], stab [(0, .var [.d (eL none (eL none (D.int .u16)) []), vl0 []]), (1, .var [.d (eL none (eL none (D.int .u16)) []), vl0 []]), (2, .var [.loc 3 0 qq.1.length, .loc 4 0 qq.2.length]), (3, .lst false none (List.map (eL none (D.int .u16)) qq.1)), (4, .lst false (some 3) (List.map eapi_Edge qq.2))], 5⟩) 2 (fun (qq : ((List (List Int)) × (List api_Edge))) => ⟨tab [(1, vp2 a0), (2, .ptr 0 0 0), (4, .ptr 1 0 0), (6, .ptr 2 0 0), (7, vi i6)], stab [(0, .var [.d (eL none (eL none (D.int .u16)) []), vl0 []]), (1, .var [.d (eL none (eL none (D.int .u16)) []), vl0 []]), (2, .var [.loc 3 0 qq.1.length, .loc 4 0 qq.2.length]), (3, .lst false none (List.map (eL none (D.int .u16)) qq.1)), (4, .lst false (some 3) (List.map eapi_Edge qq.2))], 5⟩) Low low_step (r := xr7) hl (by unfold Low; omega) ?_ ?_ ?_ ?_
    ·
     rintro i11 ⟨l9, l10⟩ xr16 hinv14 hgo13 h
     show NWp _ _ _ _ _ ⟨tab [(1, vp2 a0), (2, .ptr 0 0 0), (4, .ptr 1 0 0), (6, .ptr 2 0 0), (7, vi i6), (8, vi i11)], stab [(0, .var [.d (eL none (eL none (D.int .u16)) []), vl0 []]), (1, .var [.d (eL none (eL none (D.int .u16)) []), vl0 []]), (2, .var [.loc 3 0 l9.length, .loc 4 0 l10.length]), (3, .lst false none (List.map (eL none (D.int .u16)) l9)), (4, .lst false (some 3) (List.map eapi_Edge l10))], 5⟩
     have hc15 : decide (i11 < (a0.Rules.length : Int)) = true := decide_eq_true hgo13
     refine NWp.seq ?_
     refine NWp.opsJ ⟨tab [(1, vp2 a0), (2, .ptr 0 0 0), (4, .ptr 1 0 0), (6, .ptr 2 0 0), (7, vi i6), (8, vi i11), (34, vi (a0.Rules.length : Int)), (35, vb (decide (i11 < (a0.Rules.length : Int))))], stab [(0, .var [.d (eL none (eL none (D.int .u16)) []), vl0 []]), (1, .var [.d (eL none (eL none (D.int .u16)) []), vl0 []]), (2, .var [.loc 3 0 l9.length, .loc 4 0 l10.length]), (3, .lst false none (List.map (eL none (D.int .u16)) l9)), (4, .lst false (some 3) (List.map eapi_Edge l10))], 5⟩ ?_ ?_
     ·
      iterate 3 refine q1 _ ?_
      refine step (v := vi (a0.Rules.length : Int)) (st_len (xs := a0.Rules) (e := eapi_Rule) rfl) ?_
      refine q1 _ ?_
      exact nR [0, 1, 2, 3, 4]
     refine NWp.rng 34 rfl fun hB12 => ?_
     refine NWp.condT (t := decide (i11 < (a0.Rules.length : Int))) rfl hc15 ?_
     refine NWp.skip ?_
     obtain ⟨q34, hv, h⟩ := bindE h
     refine NWp.seqS (fun (qq : ((List (List Int)) × (List api_Edge))) => ⟨tab [(1, vp2 a0), (2, .ptr 0 0 0), (4, .ptr 1 0 0), (6, .ptr 2 0 0), (7, vi i6), (8, vi i11)], stab [(0, .var [.d (eL none (eL none (D.int .u16)) []), vl0 []]), (1, .var [.d (eL none (eL none (D.int .u16)) []), vl0 []]), (2, .var [.loc 3 0 qq.1.length, .loc 4 0 qq.2.length]), (3, .lst false none (List.map (eL none (D.int .u16)) qq.1)), (4, .lst false (some 3) (List.map eapi_Edge qq.2))], 5⟩) (xv := q34) (r := xr16) ?_ ?_ ?_
     ·
      replace h := hv
      refine NWp.block ?_
      refine NWp.seq ?_
      obtain ⟨x17, hx17, h⟩ := bindE h
      obtain ⟨x18, hx18, h⟩ := bindE h
      obtain ⟨r19, hr19, h⟩ := bindE h
      refine NWp.opsJ ⟨tab [(1, vp2 a0), (2, .ptr 0 0 0), (4, .ptr 1 0 0), (6, .ptr 2 0 0), (7, vi i6), (8, vi i11), (49, vb (!r19))], stab [(0, .var [.d (eL none (eL none (D.int .u16)) []), vl0 []]), (1, .var [.d (eL none (eL none (D.int .u16)) []), vl0 []]), (2, .var [.loc 3 0 l9.length, .loc 4 0 l10.length]), (3, .lst false none (List.map (eL none (D.int .u16)) l9)), (4, .lst false (some 3) (List.map eapi_Edge l10))], 5⟩ ?_ ?_
      ·
       iterate 3 refine q1 _ ?_
       refine step (v := vp3 x17) (st_iaddr (xs := a0.Rules) (e := eapi_Rule) hx17 rfl rfl) ?_
       iterate 4 refine q1 _ ?_
       refine step (v := .ptr 3 i6.toNat 0) (st_iaddrL (xs := l9) (e := (eL none (D.int .u16))) hx18 rfl rfl rfl rfl) ?_
       refine step (v := vl1 x18) (st_loadL (xs := l9) (e := (eL none (D.int .u16))) hx18 rfl rfl rfl) ?_
       refine stepC (r := .bool r19) (ArgsOk.dt (ArgsOk.dt ArgsOk.nil')) (c_ref11_Goes hr19) ?_
       refine q1 _ ?_
       exact nR [0, 1, 2, 3, 4]
      by_cases hc20 : (!r19) = true
      ·
       replace h := iteT hc20 h
       refine NWp.condT (t := (!r19)) rfl hc20 ?_
       have hh := Option.some.inj h
       subst hh
       refine NWp.norm (s0 := ⟨tab [(1, vp2 a0), (2, .ptr 0 0 0), (4, .ptr 1 0 0), (6, .ptr 2 0 0), (7, vi i6), (8, vi i11)], stab [(0, .var [.d (eL none (eL none (D.int .u16)) []), vl0 []]), (1, .var [.d (eL none (eL none (D.int .u16)) []), vl0 []]), (2, .var [.loc 3 0 l9.length, .loc 4 0 l10.length]), (3, .lst false none (List.map (eL none (D.int .u16)) l9)), (4, .lst false (some 3) (List.map eapi_Edge l10))], 5⟩) (nr [0, 1, 2, 3, 4]) ?_
       refine NWp.exit ?_
       exact And.intro rfl rfl
      ·
       replace h := iteF hc20 h
       refine NWp.condF (t := (!r19)) rfl hc20 ?_
       refine NWp.skip ?_
       obtain ⟨r21, hr21, h⟩ := bindE h
       refine NWp.opsJ ⟨tab [(1, vp2 a0), (2, .ptr 0 0 0), (4, .ptr 1 0 0), (6, .ptr 2 0 0), (7, vi i6), (8, vi i11), (9, vl1 r21)], stab [(0, .var [.d (eL none (eL none (D.int .u16)) []), vl0 []]), (1, .var [.d (eL none (eL none (D.int .u16)) []), vl0 []]), (2, .var [.loc 3 0 l9.length, .loc 4 0 l10.length]), (3, .lst false none (List.map (eL none (D.int .u16)) l9)), (4, .lst false (some 3) (List.map eapi_Edge l10))], 5⟩ ?_ ?_
       ·
        iterate 3 refine q1 _ ?_
        refine step (v := vp3 x17) (st_iaddr (xs := a0.Rules) (e := eapi_Rule) hx17 rfl rfl) ?_
        iterate 4 refine q1 _ ?_
        refine step (v := .ptr 3 i6.toNat 0) (st_iaddrL (xs := l9) (e := (eL none (D.int .u16))) hx18 rfl rfl rfl rfl) ?_
        refine step (v := vl1 x18) (st_loadL (xs := l9) (e := (eL none (D.int .u16))) hx18 rfl rfl rfl) ?_
        refine stepC (r := eL none (D.int .u16) r21) (ArgsOk.dt (ArgsOk.dt ArgsOk.nil')) (c_ref11_After hr21) ?_
        refine q1 _ ?_
        exact nR [0, 1, 2, 3, 4]
       refine NWp.seq ?_
       obtain ⟨r22, hr22, h⟩ := bindE h
       refine NWp.opsJ ⟨tab [(1, vp2 a0), (2, .ptr 0 0 0), (4, .ptr 1 0 0), (6, .ptr 2 0 0), (7, vi i6), (8, vi i11), (9, vl1 r21), (67, vb r22)], stab [(0, .var [.d (eL none (eL none (D.int .u16)) []), vl0 []]), (1, .var [.d (eL none (eL none (D.int .u16)) []), vl0 []]), (2, .var [.loc 3 0 l9.length, .loc 4 0 l10.length]), (3, .lst false none (List.map (eL none (D.int .u16)) l9)), (4, .lst false (some 3) (List.map eapi_Edge l10))], 5⟩ ?_ ?_
       ·
        iterate 4 refine q1 _ ?_
        refine step (v := .ptr 3 i6.toNat 0) (st_iaddrL (xs := l9) (e := (eL none (D.int .u16))) hx18 rfl rfl rfl rfl) ?_
        refine step (v := vl1 x18) (st_loadL (xs := l9) (e := (eL none (D.int .u16))) hx18 rfl rfl rfl) ?_
        refine stepC (r := .bool r22) (ArgsOk.dt (ArgsOk.dt ArgsOk.nil')) (c_ref11_Same hr22) ?_
        exact nR [0, 1, 2, 3, 4]
       by_cases hc23 : r22 = true
       ·
        replace h := iteT hc23 h
        refine NWp.condT (t := r22) rfl hc23 ?_
        have hh := Option.some.inj h
        subst hh
        refine NWp.norm (s0 := ⟨tab [(1, vp2 a0), (2, .ptr 0 0 0), (4, .ptr 1 0 0), (6, .ptr 2 0 0), (7, vi i6), (8, vi i11)], stab [(0, .var [.d (eL none (eL none (D.int .u16)) []), vl0 []]), (1, .var [.d (eL none (eL none (D.int .u16)) []), vl0 []]), (2, .var [.loc 3 0 l9.length, .loc 4 0 l10.length]), (3, .lst false none (List.map (eL none (D.int .u16)) l9)), (4, .lst false (some 3) (List.map eapi_Edge l10))], 5⟩) (nr [0, 1, 2, 3, 4]) ?_
        refine NWp.exit ?_
        exact And.intro rfl rfl
       ·
        replace h := iteF hc23 h
        refine NWp.condF (t := r22) rfl hc23 ?_
        refine NWp.skip ?_
        obtain ⟨r24, hr24, h⟩ := bindE h
        refine NWp.opsJ ⟨tab [(1, vp2 a0), (2, .ptr 0 0 0), (4, .ptr 1 0 0), (6, .ptr 2 0 0), (7, vi i6), (8, vi i11), (9, vl1 r21), (10, vi r24)], stab [(0, .var [.d (eL none (eL none (D.int .u16)) []), vl0 []]), (1, .var [.d (eL none (eL none (D.int .u16)) []), vl0 []]), (2, .var [.loc 3 0 l9.length, .loc 4 0 l10.length]), (3, .lst false none (List.map (eL none (D.int .u16)) l9)), (4, .lst false (some 3) (List.map eapi_Edge l10))], 5⟩ ?_ ?_
        ·
         iterate 3 refine q1 _ ?_
         refine stepC (r := .int .i64 r24) (ArgsOk.lcm (xs := l9) (e := (eL none (D.int .u16))) rfl rfl (ArgsOk.dt ArgsOk.nil')) (c_ref11_Find hr24) ?_
         refine q1 _ ?_
         exact nR [0, 1, 2, 3, 4]
        obtain ⟨q29, hv, h⟩ := bindE h
        obtain ⟨l27, y28⟩ := q29
        refine NWp.seqN ⟨tab [(1, vp2 a0), (2, .ptr 0 0 0), (4, .ptr 1 0 0), (6, .ptr 2 0 0), (7, vi i6), (8, vi i11), (10, vi y28)], stab [(0, .var [.d (eL none (eL none (D.int .u16)) []), vl0 []]), (1, .var [.d (eL none (eL none (D.int .u16)) []), vl0 []]), (2, .var [.loc 3 0 l27.length, .loc 4 0 l10.length]), (3, .lst false none (List.map (eL none (D.int .u16)) l27)), (4, .lst false (some 3) (List.map eapi_Edge l10))], 5⟩ ?_ ?_
        ·
         replace h := hv
         refine NWp.opsJ ⟨tab [(1, vp2 a0), (2, .ptr 0 0 0), (4, .ptr 1 0 0), (6, .ptr 2 0 0), (7, vi i6), (8, vi i11), (9, vl1 r21), (10, vi r24), (73, vb (decide (r24 < 0)))], stab [(0, .var [.d (eL none (eL none (D.int .u16)) []), vl0 []]), (1, .var [.d (eL none (eL none (D.int .u16)) []), vl0 []]), (2, .var [.loc 3 0 l9.length, .loc 4 0 l10.length]), (3, .lst false none (List.map (eL none (D.int .u16)) l9)), (4, .lst false (some 3) (List.map eapi_Edge l10))], 5⟩ ?_ ?_
         ·
          iterate 2 refine q1 _ ?_
          exact nR [0, 1, 2, 3, 4]
         by_cases hc25 : decide (r24 < 0) = true
         ·
          replace h := iteT hc25 h
          refine NWp.condT (t := decide (r24 < 0)) rfl hc25 ?_
          refine NWp.opsJ ⟨tab [(1, vp2 a0), (2, .ptr 0 0 0), (4, .ptr 1 0 0), (6, .ptr 2 0 0), (7, vi i6), (8, vi i11), (9, vl1 r21), (10, vi (l9.length : Int))], stab [(0, .var [.d (eL none (eL none (D.int .u16)) []), vl0 []]), (1, .var [.d (eL none (eL none (D.int .u16)) []), vl0 []]), (2, .var [.loc 3 0 l9.length, .loc 4 0 l10.length]), (3, .lst false none (List.map (eL none (D.int .u16)) l9)), (4, .lst false (some 3) (List.map eapi_Edge l10))], 5⟩ ?_ ?_
          ·
           iterate 4 refine q1 _ ?_
           exact nR [0, 1, 2, 3, 4]
          obtain ⟨l26, hl26, h⟩ := bindE h
          have hh := Option.some.inj h
          obtain ⟨he0, ht0⟩ := Prod.mk.inj hh
          subst he0
          subst ht0
          refine NWp.opsE ⟨tab [(1, vp2 a0), (2, .ptr 0 0 0), (4, .ptr 1 0 0), (6, .ptr 2 0 0), (7, vi i6), (8, vi i11), (10, vi (l9.length : Int))], stab [(0, .var [.d (eL none (eL none (D.int .u16)) []), vl0 []]), (1, .var [.d (eL none (eL none (D.int .u16)) []), vl0 []]), (2, .var [.loc 3 0 l26.length, .loc 4 0 l10.length]), (3, .lst false none (List.map (eL none (D.int .u16)) l26)), (4, .lst false (some 3) (List.map eapi_Edge l10))], 5⟩ ?_ ?_
          ·
           iterate 4 refine q1 _ ?_
           refine step (v := .loc 5 0 l26.length) (σ' := (upd (upd (stab [(0, .var [.d (eL none (eL none (D.int .u16)) []), vl0 []]), (1, .var [.d (eL none (eL none (D.int .u16)) []), vl0 []]), (2, .var [.loc 3 0 l9.length, .loc 4 0 l10.length]), (3, .lst false none (List.map (eL none (D.int .u16)) l9)), (4, .lst false (some 3) (List.map eapi_Edge l10))]) 3 none) 5 (some (.lst false none (List.map (eL none (D.int .u16)) l26))))) (n' := 6) (st_app (xs := l9) (ys := ([r21] : List (List Int))) (e := (eL none (D.int .u16))) hl26 rfl rfl rfl (src_v (xs := ([r21] : List (List Int))) (e := (eL none (D.int .u16))) rfl)) ?_
           refine q1 _ ?_
           refine step (v := V.undef) (σ' := (upd (upd (upd (stab [(0, .var [.d (eL none (eL none (D.int .u16)) []), vl0 []]), (1, .var [.d (eL none (eL none (D.int .u16)) []), vl0 []]), (2, .var [.loc 3 0 l9.length, .loc 4 0 l10.length]), (3, .lst false none (List.map (eL none (D.int .u16)) l9)), (4, .lst false (some 3) (List.map eapi_Edge l10))]) 3 none) 5 (some (.lst false none (List.map (eL none (D.int .u16)) l26)))) 2 (some (.var [.loc 5 0 l26.length, .loc 4 0 l10.length])))) (n' := 6) rfl ?_
           exact nR [0, 1, 2, 5, 4]
          exact And.intro rfl rfl
         ·
          replace h := iteF hc25 h
          refine NWp.condF (t := decide (r24 < 0)) rfl hc25 ?_
          have hh := Option.some.inj h
          obtain ⟨he0, ht0⟩ := Prod.mk.inj hh
          subst he0
          subst ht0
          refine NWp.norm (s0 := ⟨tab [(1, vp2 a0), (2, .ptr 0 0 0), (4, .ptr 1 0 0), (6, .ptr 2 0 0), (7, vi i6), (8, vi i11), (10, vi r24)], stab [(0, .var [.d (eL none (eL none (D.int .u16)) []), vl0 []]), (1, .var [.d (eL none (eL none (D.int .u16)) []), vl0 []]), (2, .var [.loc 3 0 l9.length, .loc 4 0 l10.length]), (3, .lst false none (List.map (eL none (D.int .u16)) l9)), (4, .lst false (some 3) (List.map eapi_Edge l10))], 5⟩) (nr [0, 1, 2, 3, 4]) ?_
          refine NWp.skip ?_
          exact And.intro rfl rfl
        refine NWp.seq ?_
        refine NWp.opsJ ⟨tab [(1, vp2 a0), (2, .ptr 0 0 0), (4, .ptr 1 0 0), (6, .ptr 2 0 0), (7, vi i6), (8, vi i11), (10, vi y28), (86, vb (decide ((l27.length : Int) > 128)))], stab [(0, .var [.d (eL none (eL none (D.int .u16)) []), vl0 []]), (1, .var [.d (eL none (eL none (D.int .u16)) []), vl0 []]), (2, .var [.loc 3 0 l27.length, .loc 4 0 l10.length]), (3, .lst false none (List.map (eL none (D.int .u16)) l27)), (4, .lst false (some 3) (List.map eapi_Edge l10))], 5⟩ ?_ ?_
        ·
         iterate 4 refine q1 _ ?_
         exact nR [0, 1, 2, 3, 4]
        by_cases hc30 : decide ((l27.length : Int) > 128) = true
        ·
         replace h := iteT hc30 h
         refine NWp.condT (t := decide ((l27.length : Int) > 128)) rfl hc30 ?_
         refine NWp.opsJ ⟨tab [(2, .ptr 0 0 0), (3, vi 21)], stab [(0, .var [.d (eL none (eL none (D.int .u16)) []), vl0 []])], 1⟩ ?_ ?_
         ·
          refine step (v := vs1 (api_Space.mk [] [])) (st_ldV (ds := [eL none (eL none (D.int .u16)) [], eL (some 3) eapi_Edge []]) rfl rfl (show 2 ≤ 2 by decide) rfl) ?_
          refine step (v := V.undef) (σ' := (upd (stab [(0, .var [.d (eL none (eL none (D.int .u16)) []), vl0 []]), (1, .var [.d (eL none (eL none (D.int .u16)) []), vl0 []]), (2, .var [.loc 3 0 l27.length, .loc 4 0 l10.length]), (3, .lst false none (List.map (eL none (D.int .u16)) l27)), (4, .lst false (some 3) (List.map eapi_Edge l10))]) 0 (some (.var [.d (eL none (eL none (D.int .u16)) []), vl0 []])))) (n' := 5) rfl ?_
          refine q1 _ ?_
          exact nR [0]
         obtain ⟨r31, kr31, hr⟩ := mapE (o := some (Br.ret (Br.ret ((api_Space.mk [] []), 21)))) (g := Sum.inr) h
         subst hr
         have h := kr31
         obtain ⟨r32, kr32, hr⟩ := mapE (o := some (Br.ret ((api_Space.mk [] []), 21))) (g := Br.ret) h
         subst hr
         have h := kr32
         obtain ⟨r33, kr33, hr⟩ := mapE (o := some ((api_Space.mk [] []), 21)) (g := Br.ret) h
         subst hr
         have h := kr33
         have hh := Option.some.inj h
         subst hh
         refine NWp.ret ?_
         refine And.intro (fun hn => nomatch hn) ?_
         intro hq
         have hq := hq.symm
         subst hq
         refine And.intro (fun hn => nomatch hn) ?_
         intro hq
         have hq := hq.symm
         subst hq
         refine And.intro (fun hn => nomatch hn) ?_
         intro hq
         have hq := hq.symm
         subst hq
         show FQ _ _ _ _
         exact FQ.mkT (.inr rfl) (res_cell (ds := [eL none (eL none (D.int .u16)) [], eL (some 3) eapi_Edge []]) rfl rfl (show 2 ≤ 2 by decide) rfl (res_t (v := vi 21) rfl rfl)) (RV.d (RV.d trivial))
        ·
         replace h := iteF hc30 h
         refine NWp.condF (t := decide ((l27.length : Int) > 128)) rfl hc30 ?_
         refine NWp.skip ?_
         obtain ⟨l31, hl31, h⟩ := bindE h
         have hh := Option.some.inj h
         subst hh
         refine NWp.opsE ⟨tab [(1, vp2 a0), (2, .ptr 0 0 0), (4, .ptr 1 0 0), (6, .ptr 2 0 0), (7, vi i6), (8, vi i11)], stab [(0, .var [.d (eL none (eL none (D.int .u16)) []), vl0 []]), (1, .var [.d (eL none (eL none (D.int .u16)) []), vl0 []]), (2, .var [.loc 3 0 l27.length, .loc 4 0 l31.length]), (3, .lst false none (List.map (eL none (D.int .u16)) l27)), (4, .lst false (some 3) (List.map eapi_Edge l31))], 5⟩ ?_ ?_
         ·
          iterate 5 refine q1 _ ?_
          refine step (v := .d (eapi_Edge (api_Edge.mk i6 i11 y28))) (st_build (ds := [.int .i64 i6, .int .i64 i11, .int .i64 y28]) rfl) ?_
          refine q1 _ ?_
          refine step (v := .loc 5 0 l31.length) (σ' := (upd (upd (stab [(0, .var [.d (eL none (eL none (D.int .u16)) []), vl0 []]), (1, .var [.d (eL none (eL none (D.int .u16)) []), vl0 []]), (2, .var [.loc 3 0 l27.length, .loc 4 0 l10.length]), (3, .lst false none (List.map (eL none (D.int .u16)) l27)), (4, .lst false (some 3) (List.map eapi_Edge l10))]) 4 none) 5 (some (.lst false (some 3) (List.map eapi_Edge l31))))) (n' := 6) (st_app (xs := l10) (ys := ([(api_Edge.mk i6 i11 y28)] : List api_Edge)) (e := eapi_Edge) hl31 rfl rfl rfl (src_v (xs := ([(api_Edge.mk i6 i11 y28)] : List api_Edge)) (e := eapi_Edge) rfl)) ?_
          refine q1 _ ?_
          refine step (v := V.undef) (σ' := (upd (upd (upd (stab [(0, .var [.d (eL none (eL none (D.int .u16)) []), vl0 []]), (1, .var [.d (eL none (eL none (D.int .u16)) []), vl0 []]), (2, .var [.loc 3 0 l27.length, .loc 4 0 l10.length]), (3, .lst false none (List.map (eL none (D.int .u16)) l27)), (4, .lst false (some 3) (List.map eapi_Edge l10))]) 4 none) 5 (some (.lst false (some 3) (List.map eapi_Edge l31)))) 2 (some (.var [.loc 3 0 l27.length, .loc 5 0 l31.length])))) (n' := 6) rfl ?_
          exact nR [0, 1, 2, 3, 5]
         exact And.intro rfl rfl
     ·
      intro r' hq
      subst hq
      exact Option.some.inj h
     rintro ⟨l32, l33⟩ rfl
     show NWp _ _ _ _ _ ⟨tab [(1, vp2 a0), (2, .ptr 0 0 0), (4, .ptr 1 0 0), (6, .ptr 2 0 0), (7, vi i6), (8, vi i11)], stab [(0, .var [.d (eL none (eL none (D.int .u16)) []), vl0 []]), (1, .var [.d (eL none (eL none (D.int .u16)) []), vl0 []]), (2, .var [.loc 3 0 l32.length, .loc 4 0 l33.length]), (3, .lst false none (List.map (eL none (D.int .u16)) l32)), (4, .lst false (some 3) (List.map eapi_Edge l33))], 5⟩
     have hh := Option.some.inj h
     subst hh
     refine NWp.opsE ⟨tab [(1, vp2 a0), (2, .ptr 0 0 0), (4, .ptr 1 0 0), (6, .ptr 2 0 0), (7, vi i6), (8, vi (i11 + 1))], stab [(0, .var [.d (eL none (eL none (D.int .u16)) []), vl0 []]), (1, .var [.d (eL none (eL none (D.int .u16)) []), vl0 []]), (2, .var [.loc 3 0 l32.length, .loc 4 0 l33.length]), (3, .lst false none (List.map (eL none (D.int .u16)) l32)), (4, .lst false (some 3) (List.map eapi_Edge l33))], 5⟩ ?_ ?_
     ·
      refine q1 _ ?_
      refine step (v := vi (i11 + 1)) (st_inc (inc_ok hinv14 hgo13 hB12) rfl rfl) ?_
      refine q1 _ ?_
      exact nR [0, 1, 2, 3, 4]
     exact And.intro rfl rfl
    ·
     rintro i11 ⟨l9, l10⟩ hinv14 hgo13
     show NWp _ _ _ _ _ ⟨tab [(1, vp2 a0), (2, .ptr 0 0 0), (4, .ptr 1 0 0), (6, .ptr 2 0 0), (7, vi i6), (8, vi i11)], stab [(0, .var [.d (eL none (eL none (D.int .u16)) []), vl0 []]), (1, .var [.d (eL none (eL none (D.int .u16)) []), vl0 []]), (2, .var [.loc 3 0 l9.length, .loc 4 0 l10.length]), (3, .lst false none (List.map (eL none (D.int .u16)) l9)), (4, .lst false (some 3) (List.map eapi_Edge l10))], 5⟩
     have hc15 : ¬ (decide (i11 < (a0.Rules.length : Int)) = true) := fun hq => hgo13 (of_decide_eq_true hq)
     refine NWp.seq ?_
     refine NWp.opsJ ⟨tab [(1, vp2 a0), (2, .ptr 0 0 0), (4, .ptr 1 0 0), (6, .ptr 2 0 0), (7, vi i6), (8, vi i11), (35, vb (decide (i11 < (a0.Rules.length : Int))))], stab [(0, .var [.d (eL none (eL none (D.int .u16)) []), vl0 []]), (1, .var [.d (eL none (eL none (D.int .u16)) []), vl0 []]), (2, .var [.loc 3 0 l9.length, .loc 4 0 l10.length]), (3, .lst false none (List.map (eL none (D.int .u16)) l9)), (4, .lst false (some 3) (List.map eapi_Edge l10))], 5⟩ ?_ ?_
     ·
      iterate 3 refine q1 _ ?_
      refine step (v := vi (a0.Rules.length : Int)) (st_len (xs := a0.Rules) (e := eapi_Rule) rfl) ?_
      refine q1 _ ?_
      exact nR [0, 1, 2, 3, 4]
     refine NWp.condF (t := decide (i11 < (a0.Rules.length : Int))) rfl hc15 ?_
     refine NWp.norm (s0 := ⟨tab [(1, vp2 a0), (2, .ptr 0 0 0), (4, .ptr 1 0 0), (6, .ptr 2 0 0), (7, vi i6)], stab [(0, .var [.d (eL none (eL none (D.int .u16)) []), vl0 []]), (1, .var [.d (eL none (eL none (D.int .u16)) []), vl0 []]), (2, .var [.loc 3 0 l9.length, .loc 4 0 l10.length]), (3, .lst false none (List.map (eL none (D.int .u16)) l9)), (4, .lst false (some 3) (List.map eapi_Edge l10))], 5⟩) (nr [0, 1, 2, 3, 4]) ?_
     refine NWp.exit ?_
     exact And.intro rfl rfl
    ·
     intro r' hq
     subst hq
     exact Option.some.inj h
    rintro ⟨z35, z36⟩ rfl
    have hh := Option.some.inj h
    subst hh
    refine NWp.opsE ⟨tab [(1, vp2 a0), (2, .ptr 0 0 0), (4, .ptr 1 0 0), (6, .ptr 2 0 0), (7, vi (IntKind.i64.wrap (i6 + 1)))], stab [(0, .var [.d (eL none (eL none (D.int .u16)) []), vl0 []]), (1, .var [.d (eL none (eL none (D.int .u16)) []), vl0 []]), (2, .var [.loc 3 0 z35.length, .loc 4 0 z36.length]), (3, .lst false none (List.map (eL none (D.int .u16)) z35)), (4, .lst false (some 3) (List.map eapi_Edge z36))], 5⟩ ?_ ?_
    ·
     iterate 3 refine q1 _ ?_
     exact nR [0, 1, 2, 3, 4]
    exact And.intro rfl rfl
   ·
    replace h := iteF hc8 h
    refine NWp.condF (t := decide (i6 < (l4.length : Int))) rfl hc8 ?_
    have hh := Option.some.inj h
    subst hh
    refine NWp.norm (s0 := ⟨tab [(2, .ptr 0 0 0), (4, .ptr 1 0 0), (6, .ptr 2 0 0)], stab [(0, .var [.d (eL none (eL none (D.int .u16)) []), vl0 []]), (1, .var [.d (eL none (eL none (D.int .u16)) []), vl0 []]), (2, .var [.loc 3 0 l4.length, .loc 4 0 l5.length]), (3, .lst false none (List.map (eL none (D.int .u16)) l4)), (4, .lst false (some 3) (List.map eapi_Edge l5))], 5⟩) (nr [0, 1, 2, 3, 4]) ?_
    refine NWp.exit ?_
    exact And.intro rfl rfl
  ·
   intro r' hq
   subst hq
   exact Option.some.inj h
  rintro ⟨z38, z39, z40⟩ rfl
  refine NWp.seq ?_
  obtain ⟨r41, hr41, h⟩ := bindE h
  refine NWp.opsJ ⟨tab [(2, .ptr 0 0 0), (4, .ptr 1 0 0), (6, .ptr 2 0 0), (98, vb r41)], stab [(0, .var [.d (eL none (eL none (D.int .u16)) []), vl0 []]), (1, .var [.d (eL none (eL none (D.int .u16)) []), vl0 []]), (2, .var [.loc 3 0 z38.length, .loc 4 0 z39.length]), (3, .lst false none (List.map (eL none (D.int .u16)) z38)), (4, .lst false (some 3) (List.map eapi_Edge z39))], 5⟩ ?_ ?_
  ·
   refine q1 _ ?_
   refine stepC (r := .bool r41) (ArgsOk.vw (va_agg (optC (vc_l (xs := z38) (e := (eL none (D.int .u16))) rfl rfl) (optC (vc_l (xs := z39) (e := eapi_Edge) rfl rfl) optN))) (Sub.aggs (by exact ⟨.refl _, .refl _, trivial⟩)) ArgsOk.nil') (c_ref11_round hr41) ?_
   exact nR [0, 1, 2, 3, 4]
  by_cases hc42 : r41 = true
  ·
   replace h := iteT hc42 h
   refine NWp.condT (t := r41) rfl hc42 ?_
   refine NWp.opsJ ⟨tab [(2, .ptr 0 0 0), (3, vi 20)], stab [(0, .var [.d (eL none (eL none (D.int .u16)) []), vl0 []])], 1⟩ ?_ ?_
   ·
    refine step (v := vs1 (api_Space.mk [] [])) (st_ldV (ds := [eL none (eL none (D.int .u16)) [], eL (some 3) eapi_Edge []]) rfl rfl (show 2 ≤ 2 by decide) rfl) ?_
    refine step (v := V.undef) (σ' := (upd (stab [(0, .var [.d (eL none (eL none (D.int .u16)) []), vl0 []]), (1, .var [.d (eL none (eL none (D.int .u16)) []), vl0 []]), (2, .var [.loc 3 0 z38.length, .loc 4 0 z39.length]), (3, .lst false none (List.map (eL none (D.int .u16)) z38)), (4, .lst false (some 3) (List.map eapi_Edge z39))]) 0 (some (.var [.d (eL none (eL none (D.int .u16)) []), vl0 []])))) (n' := 5) rfl ?_
    refine q1 _ ?_
    exact nR [0]
   have hh := Option.some.inj h
   subst hh
   refine NWp.ret ?_
   show FQ _ _ _ _
   exact FQ.mkT (.inr rfl) (res_cell (ds := [eL none (eL none (D.int .u16)) [], eL (some 3) eapi_Edge []]) rfl rfl (show 2 ≤ 2 by decide) rfl (res_t (v := vi 20) rfl rfl)) (RV.d (RV.d trivial))
  ·
   replace h := iteF hc42 h
   refine NWp.condF (t := r41) rfl hc42 ?_
   refine NWp.skip ?_
   refine NWp.opsJ ⟨tab [(2, .ptr 0 0 0), (3, vi 0)], stab [(0, .var [.loc 1 0 z38.length, .loc 2 0 z39.length]), (1, .lst false none (List.map (eL none (D.int .u16)) z38)), (2, .lst false (some 3) (List.map eapi_Edge z39))], 3⟩ ?_ ?_
   ·
    refine q1 _ ?_
    refine step (v := V.undef) (σ' := (upd (stab [(0, .var [.d (eL none (eL none (D.int .u16)) []), vl0 []]), (1, .var [.d (eL none (eL none (D.int .u16)) []), vl0 []]), (2, .var [.loc 3 0 z38.length, .loc 4 0 z39.length]), (3, .lst false none (List.map (eL none (D.int .u16)) z38)), (4, .lst false (some 3) (List.map eapi_Edge z39))]) 0 (some (.var [.loc 3 0 z38.length, .loc 4 0 z39.length])))) (n' := 5) rfl ?_
    refine q1 _ ?_
    exact nR [0, 3, 4]
   have hh := Option.some.inj h
   subst hh
   refine NWp.ret ?_
   show FQ _ _ _ _
   exact FQ.mkT (.inr rfl) rfl (RV.agg (RV0.loc (xs := z38) (e := (eL none (D.int .u16))) rfl rfl (RV0.loc (xs := z39) (e := eapi_Edge) rfl rfl trivial)) (RV.d trivial))

theorem c_law11_Same {a0 : api_Space} {a1 : api_Space} {r : Bool} (h : law11_Same a0 a1 = some r) : PCall Try.prog 27 [eapi_Space a0, eapi_Space a1] (.bool r) := by
 refine PCall.introN ok27 (show 2 ≤ 60 by decide) ?_
 refine NWp.norm (s0 := ⟨tab [(0, vs1 a0), (1, vs1 a1)], stab [], 0⟩) (nr []) ?_
 refine NWp.opsJ ⟨tab [(2, vp0 a0), (3, vp0 a1)], stab [], 0⟩ ?_ ?_
 ·
  iterate 3 refine q1 _ ?_
  exact nR []
 refine NWp.seq ?_
 refine NWp.opsJ ⟨tab [(2, vp0 a0), (3, vp0 a1), (22, vb (((a0.States.length : Int) != (a1.States.length : Int)) || ((a0.Edges.length : Int) != (a1.Edges.length : Int))))], stab [], 0⟩ ?_ ?_
 ·
  iterate 2 refine q1 _ ?_
  refine step (v := vi (a0.States.length : Int)) (st_len (xs := a0.States) (e := (eL none (D.int .u16))) rfl) ?_
  iterate 2 refine q1 _ ?_
  refine step (v := vi (a1.States.length : Int)) (st_len (xs := a1.States) (e := (eL none (D.int .u16))) rfl) ?_
  iterate 2 refine q1 _ ?_
  by_cases hg1 : ((a0.States.length : Int) != (a1.States.length : Int)) = true
  ·
   iterate 7 refine qX ((a0.States.length : Int) != (a1.States.length : Int)) (by rw [hg1]; decide) ?_
   refine step (v := vb true) (st_pickT (b := ((a0.States.length : Int) != (a1.States.length : Int))) rfl hg1 rfl) ?_
   exact RunOps.nil' (nm [] ⟨.d _, .d _, .eq (by first | (simp [hg1]; done) | (simp_all; done) | grind), trivial⟩ trivial)
  ·
   refine qG ((a0.States.length : Int) != (a1.States.length : Int)) (Bool.eq_false_iff.2 hg1) ?_
   refine q1 _ ?_
   refine qG ((a0.States.length : Int) != (a1.States.length : Int)) (Bool.eq_false_iff.2 hg1) ?_
   refine q1 _ ?_
   refine qG ((a0.States.length : Int) != (a1.States.length : Int)) (Bool.eq_false_iff.2 hg1) ?_
   refine step (v := vi (a0.Edges.length : Int)) (st_len (xs := a0.Edges) (e := eapi_Edge) rfl) ?_
   refine qG ((a0.States.length : Int) != (a1.States.length : Int)) (Bool.eq_false_iff.2 hg1) ?_
   refine q1 _ ?_
   refine qG ((a0.States.length : Int) != (a1.States.length : Int)) (Bool.eq_false_iff.2 hg1) ?_
   refine q1 _ ?_
   refine qG ((a0.States.length : Int) != (a1.States.length : Int)) (Bool.eq_false_iff.2 hg1) ?_
   refine step (v := vi (a1.Edges.length : Int)) (st_len (xs := a1.Edges) (e := eapi_Edge) rfl) ?_
   refine qG ((a0.States.length : Int) != (a1.States.length : Int)) (Bool.eq_false_iff.2 hg1) ?_
   refine q1 _ ?_
   refine step (v := vb ((a0.Edges.length : Int) != (a1.Edges.length : Int))) (st_pickF (b := ((a0.States.length : Int) != (a1.States.length : Int))) rfl hg1 rfl) ?_
   exact RunOps.nil' (nm [] ⟨.d _, .d _, .eq (by first | (simp [hg1]; done) | (simp_all; done) | grind), trivial⟩ trivial)
 by_cases hc2 : (((a0.States.length : Int) != (a1.States.length : Int)) || ((a0.Edges.length : Int) != (a1.Edges.length : Int))) = true
 ·
  replace h := iteT hc2 h
  refine NWp.condT (t := (((a0.States.length : Int) != (a1.States.length : Int)) || ((a0.Edges.length : Int) != (a1.Edges.length : Int)))) rfl hc2 ?_
  refine NWp.opsJ ⟨tab [(4, vb false)], stab [], 0⟩ ?_ ?_
  ·
   refine q1 _ ?_
   exact nR []
  have hh := Option.some.inj h
  subst hh
  refine NWp.ret ?_
  show FQ _ _ _ _
  exact FQ.mk1 (.inr rfl) (res_t (v := vb false) rfl rfl) (RV.d trivial)
 ·
  replace h := iteF hc2 h
  refine NWp.condF (t := (((a0.States.length : Int) != (a1.States.length : Int)) || ((a0.Edges.length : Int) != (a1.Edges.length : Int)))) rfl hc2 ?_
  refine NWp.skip ?_
  refine NWp.seq ?_
  refine NWp.opsJ ⟨tab [(2, vp0 a0), (3, vp0 a1), (25, vi (a0.States.length : Int)), (26, vi 0)], stab [], 0⟩ ?_ ?_
  ·
   iterate 2 refine q1 _ ?_
   refine step (v := vi (a0.States.length : Int)) (st_len (xs := a0.States) (e := (eL none (D.int .u16))) rfl) ?_
   refine q1 _ ?_
   exact nR []
  obtain ⟨q23, hl, h⟩ := bindE h
  refine NWp.block ?_
  refine loop_forR (cntU (a0.States.length : Int)) (fun (i3 : Int) (qq : Unit) => ⟨tab [(2, vp0 a0), (3, vp0 a1), (25, vi (a0.States.length : Int)), (26, vi i3)], stab [], 0⟩) 0 (fun (qq : Unit) => ⟨tab [(2, vp0 a0), (3, vp0 a1)], stab [], 0⟩) Low low_step (r := r) hl (by unfold Low; omega) ?_ ?_ ?_ ?_
  ·
   rintro i3 ⟨⟩ xr8 hinv6 hgo5 h
   show NWp _ _ _ _ _ ⟨tab [(2, vp0 a0), (3, vp0 a1), (25, vi (a0.States.length : Int)), (26, vi i3)], stab [], 0⟩
   have hc7 : decide (i3 < (a0.States.length : Int)) = true := decide_eq_true hgo5
   refine NWp.opsJ ⟨tab [(2, vp0 a0), (3, vp0 a1), (25, vi (a0.States.length : Int)), (26, vi i3), (27, vb (decide (i3 < (a0.States.length : Int))))], stab [], 0⟩ ?_ ?_
   ·
    refine q1 _ ?_
    exact nR []
   refine NWp.rng 25 rfl fun hB4 => ?_
   refine NWp.seq ?_
   refine NWp.condT (t := decide (i3 < (a0.States.length : Int))) rfl hc7 ?_
   refine NWp.skip ?_
   refine NWp.seq ?_
   refine NWp.block ?_
   refine NWp.opsJ ⟨tab [(2, vp0 a0), (3, vp0 a1), (5, vi i3), (25, vi (a0.States.length : Int)), (26, vi i3)], stab [], 0⟩ ?_ ?_
   ·
    iterate 2 refine q1 _ ?_
    exact nR []
   obtain ⟨x9, hx9, h⟩ := bindE h
   obtain ⟨x10, hx10, h⟩ := bindE h
   obtain ⟨r11, hr11, h⟩ := bindE h
   refine NWp.opsJ ⟨tab [(2, vp0 a0), (3, vp0 a1), (25, vi (a0.States.length : Int)), (26, vi i3), (40, vb (!r11))], stab [], 0⟩ ?_ ?_
   ·
    iterate 3 refine q1 _ ?_
    refine step (v := .d (.cptr none (eL none (D.int .u16) x9) 0)) (st_iaddr (xs := a0.States) (e := (eL none (D.int .u16))) hx9 rfl rfl) ?_
    iterate 4 refine q1 _ ?_
    refine step (v := .d (.cptr none (eL none (D.int .u16) x10) 0)) (st_iaddr (xs := a1.States) (e := (eL none (D.int .u16))) hx10 rfl rfl) ?_
    refine q1 _ ?_
    refine stepC (r := .bool r11) (ArgsOk.dt (ArgsOk.dt ArgsOk.nil')) (c_ref11_Same hr11) ?_
    refine q1 _ ?_
    exact nR []
   by_cases hc12 : (!r11) = true
   ·
    replace h := iteT hc12 h
    refine NWp.condT (t := (!r11)) rfl hc12 ?_
    refine NWp.opsJ ⟨tab [(4, vb false)], stab [], 0⟩ ?_ ?_
    ·
     refine q1 _ ?_
     exact nR []
    obtain ⟨r13, kr13, hr⟩ := mapE (o := some false) (g := Br.ret) h
    subst hr
    have h := kr13
    have hh := Option.some.inj h
    subst hh
    refine NWp.ret ?_
    refine And.intro (fun hn => nomatch hn) ?_
    intro hq
    have hq := hq.symm
    subst hq
    show FQ _ _ _ _
    exact FQ.mk1 (.inr rfl) (res_t (v := vb false) rfl rfl) (RV.d trivial)
   ·
    replace h := iteF hc12 h
    refine NWp.condF (t := (!r11)) rfl hc12 ?_
    refine NWp.skip ?_
    have hh := Option.some.inj h
    subst hh
    refine NWp.opsE ⟨tab [(2, vp0 a0), (3, vp0 a1), (25, vi (a0.States.length : Int)), (26, vi (i3 + 1))], stab [], 0⟩ ?_ ?_
    ·
     refine step (v := vi (i3 + 1)) (st_inc (inc_ok hinv6 hgo5 hB4) rfl rfl) ?_
     refine q1 _ ?_
     exact nR []
    exact And.intro rfl rfl
  ·
   rintro i3 ⟨⟩ hinv6 hgo5
   show NWp _ _ _ _ _ ⟨tab [(2, vp0 a0), (3, vp0 a1), (25, vi (a0.States.length : Int)), (26, vi i3)], stab [], 0⟩
   have hc7 : ¬ (decide (i3 < (a0.States.length : Int)) = true) := fun hq => hgo5 (of_decide_eq_true hq)
   refine NWp.opsJ ⟨tab [(2, vp0 a0), (3, vp0 a1), (25, vi (a0.States.length : Int)), (26, vi i3), (27, vb (decide (i3 < (a0.States.length : Int))))], stab [], 0⟩ ?_ ?_
   ·
    refine q1 _ ?_
    exact nR []
   refine NWp.seq ?_
   refine NWp.condF (t := decide (i3 < (a0.States.length : Int))) rfl hc7 ?_
   refine NWp.norm (s0 := ⟨tab [(2, vp0 a0), (3, vp0 a1)], stab [], 0⟩) (nr []) ?_
   refine NWp.exit ?_
   exact And.intro rfl rfl
  ·
   intro r' hq
   subst hq
   exact Option.some.inj h
  rintro ⟨⟩ rfl
  refine NWp.seq ?_
  refine NWp.opsJ ⟨tab [(2, vp0 a0), (3, vp0 a1), (44, vi (a0.Edges.length : Int)), (45, vi 0)], stab [], 0⟩ ?_ ?_
  ·
   iterate 2 refine q1 _ ?_
   refine step (v := vi (a0.Edges.length : Int)) (st_len (xs := a0.Edges) (e := eapi_Edge) rfl) ?_
   refine q1 _ ?_
   exact nR []
  obtain ⟨q22, hl, h⟩ := bindE h
  refine NWp.block ?_
  refine loop_forR (cntU (a0.Edges.length : Int)) (fun (i13 : Int) (qq : Unit) => ⟨tab [(2, vp0 a0), (3, vp0 a1), (44, vi (a0.Edges.length : Int)), (45, vi i13)], stab [], 0⟩) 2 (fun (qq : Unit) => ⟨tab [], stab [], 0⟩) Low low_step (r := r) hl (by unfold Low; omega) ?_ ?_ ?_ ?_
  ·
   rintro i13 ⟨⟩ xr18 hinv16 hgo15 h
   show NWp _ _ _ _ _ ⟨tab [(2, vp0 a0), (3, vp0 a1), (44, vi (a0.Edges.length : Int)), (45, vi i13)], stab [], 0⟩
   have hc17 : decide (i13 < (a0.Edges.length : Int)) = true := decide_eq_true hgo15
   refine NWp.opsJ ⟨tab [(2, vp0 a0), (3, vp0 a1), (44, vi (a0.Edges.length : Int)), (45, vi i13), (46, vb (decide (i13 < (a0.Edges.length : Int))))], stab [], 0⟩ ?_ ?_
   ·
    refine q1 _ ?_
    exact nR []
   refine NWp.rng 44 rfl fun hB14 => ?_
   refine NWp.seq ?_
   refine NWp.condT (t := decide (i13 < (a0.Edges.length : Int))) rfl hc17 ?_
   refine NWp.skip ?_
   refine NWp.seq ?_
   refine NWp.block ?_
   refine NWp.opsJ ⟨tab [(2, vp0 a0), (3, vp0 a1), (6, vi i13), (44, vi (a0.Edges.length : Int)), (45, vi i13)], stab [], 0⟩ ?_ ?_
   ·
    iterate 2 refine q1 _ ?_
    exact nR []
   obtain ⟨x19, hx19, h⟩ := bindE h
   obtain ⟨x20, hx20, h⟩ := bindE h
   refine NWp.opsJ ⟨tab [(2, vp0 a0), (3, vp0 a1), (44, vi (a0.Edges.length : Int)), (45, vi i13), (58, vb (!(x19 == x20)))], stab [], 0⟩ ?_ ?_
   ·
    iterate 3 refine q1 _ ?_
    refine step (v := vp5 x19) (st_iaddr (xs := a0.Edges) (e := eapi_Edge) hx19 rfl rfl) ?_
    iterate 4 refine q1 _ ?_
    refine step (v := vp5 x20) (st_iaddr (xs := a1.Edges) (e := eapi_Edge) hx20 rfl rfl) ?_
    refine q1 _ ?_
    refine step (v := vb (!(x19 == x20))) (st_eqS (neg := true) rfl rfl (eqS_api_Edge x19 x20)) ?_
    exact nR []
   by_cases hc21 : (!(x19 == x20)) = true
   ·
    replace h := iteT hc21 h
    refine NWp.condT (t := (!(x19 == x20))) rfl hc21 ?_
    refine NWp.opsJ ⟨tab [(4, vb false)], stab [], 0⟩ ?_ ?_
    ·
     refine q1 _ ?_
     exact nR []
    obtain ⟨r22, kr22, hr⟩ := mapE (o := some false) (g := Br.ret) h
    subst hr
    have h := kr22
    have hh := Option.some.inj h
    subst hh
    refine NWp.ret ?_
    refine And.intro (fun hn => nomatch hn) ?_
    intro hq
    have hq := hq.symm
    subst hq
    show FQ _ _ _ _
    exact FQ.mk1 (.inr rfl) (res_t (v := vb false) rfl rfl) (RV.d trivial)
   ·
    replace h := iteF hc21 h
    refine NWp.condF (t := (!(x19 == x20))) rfl hc21 ?_
    refine NWp.skip ?_
    have hh := Option.some.inj h
    subst hh
    refine NWp.opsE ⟨tab [(2, vp0 a0), (3, vp0 a1), (44, vi (a0.Edges.length : Int)), (45, vi (i13 + 1))], stab [], 0⟩ ?_ ?_
    ·
     refine step (v := vi (i13 + 1)) (st_inc (inc_ok hinv16 hgo15 hB14) rfl rfl) ?_
     refine q1 _ ?_
     exact nR []
    exact And.intro rfl rfl
  ·
   rintro i13 ⟨⟩ hinv16 hgo15
   show NWp _ _ _ _ _ ⟨tab [(2, vp0 a0), (3, vp0 a1), (44, vi (a0.Edges.length : Int)), (45, vi i13)], stab [], 0⟩
   have hc17 : ¬ (decide (i13 < (a0.Edges.length : Int)) = true) := fun hq => hgo15 (of_decide_eq_true hq)
   refine NWp.opsJ ⟨tab [(2, vp0 a0), (3, vp0 a1), (44, vi (a0.Edges.length : Int)), (45, vi i13), (46, vb (decide (i13 < (a0.Edges.length : Int))))], stab [], 0⟩ ?_ ?_
   ·
    refine q1 _ ?_
    exact nR []
   refine NWp.seq ?_
   refine NWp.condF (t := decide (i13 < (a0.Edges.length : Int))) rfl hc17 ?_
   refine NWp.norm (s0 := ⟨tab [], stab [], 0⟩) (nr []) ?_
   refine NWp.exit ?_
   exact And.intro rfl rfl
  ·
   intro r' hq
   subst hq
   exact Option.some.inj h
  rintro ⟨⟩ rfl
  refine NWp.opsJ ⟨tab [(4, vb true)], stab [], 0⟩ ?_ ?_
  ·
   refine q1 _ ?_
   exact nR []
  have hh := Option.some.inj h
  subst hh
  refine NWp.ret ?_
  show FQ _ _ _ _
  exact FQ.mk1 (.inr rfl) (res_t (v := vb true) rfl rfl) (RV.d trivial)

theorem c_law11_SpaceExplores {a0 : api_Program} {r : Bool} (h : law11_SpaceExplores a0 = some r) : PCall Try.prog 6 [eapi_Program a0] (.bool r) := by
 refine PCall.introN ok6 (show 1 ≤ 32 by decide) ?_
 refine NWp.norm (s0 := ⟨tab [(0, vs3 a0)], stab [], 0⟩) (nr []) ?_
 refine NWp.opsJ ⟨tab [(1, .ptr 0 0 0)], stab [(0, .var [vl1 a0.Init, vi a0.Pol.Op, vi a0.Pol.F, vh a0.Pol.N, vl3 a0.Pol.Kids, vl4 a0.Rules])], 1⟩ ?_ ?_
 ·
  refine step (v := .ptr 0 0 0) (σ' := (upd (stab []) 0 (some (.var [vl1 a0.Init, vi a0.Pol.Op, vi a0.Pol.F, vh a0.Pol.N, vl3 a0.Pol.Kids, vl4 a0.Rules])))) (n' := 1) rfl ?_
  refine q1 _ ?_
  exact nR [0]
 refine NWp.seq ?_
 obtain ⟨r1, hr1, h⟩ := bindE h
 refine NWp.opsJ ⟨tab [(1, .ptr 0 0 0), (8, vb (!r1))], stab [(0, .var [vl1 a0.Init, vi a0.Pol.Op, vi a0.Pol.F, vh a0.Pol.N, vl3 a0.Pol.Kids, vl4 a0.Rules])], 1⟩ ?_ ?_
 ·
  refine stepC (r := .bool r1) ArgsOk.nil' (c_law11_awake hr1) ?_
  refine q1 _ ?_
  exact nR [0]
 by_cases hc2 : (!r1) = true
 ·
  replace h := iteT hc2 h
  refine NWp.condT (t := (!r1)) rfl hc2 ?_
  refine NWp.opsJ ⟨tab [(2, vb false)], stab [], 0⟩ ?_ ?_
  ·
   refine q1 _ ?_
   exact nR []
  have hh := Option.some.inj h
  subst hh
  refine NWp.ret ?_
  show FQ _ _ _ _
  exact FQ.mk1 (.inr rfl) (res_t (v := vb false) rfl rfl) (RV.d trivial)
 ·
  replace h := iteF hc2 h
  refine NWp.condF (t := (!r1)) rfl hc2 ?_
  refine NWp.skip ?_
  refine NWp.opsJ ⟨tab [(1, .ptr 0 0 0)], stab [(0, .var [vl1 a0.Init, vi 0, vi 0, vh 0, vl3 [], vl4 a0.Rules])], 1⟩ ?_ ?_
  ·
   refine step (v := vs2 (api_Pol.mk 0 0 0 [])) (st_build (ds := [.int .i64 0, .int .i64 0, .int .u16 0, eL (some 4) eapi_Pol []]) rfl) ?_
   refine q1 _ ?_
   refine step (v := V.undef) (σ' := (upd (stab [(0, .var [vl1 a0.Init, vi a0.Pol.Op, vi a0.Pol.F, vh a0.Pol.N, vl3 a0.Pol.Kids, vl4 a0.Rules])]) 0 (some (.var [vl1 a0.Init, vi 0, vi 0, vh 0, vl3 [], vl4 a0.Rules])))) (n' := 1) rfl ?_
   exact nR [0]
  refine NWp.seq ?_
  obtain ⟨r3, hr3, h⟩ := bindE h
  refine NWp.opsJ ⟨tab [(1, .ptr 0 0 0), (13, vb (!r3))], stab [(0, .var [vl1 a0.Init, vi 0, vi 0, vh 0, vl3 [], vl4 a0.Rules])], 1⟩ ?_ ?_
  ·
   refine step (v := vs3 (api_Program.mk a0.Init (api_Pol.mk 0 0 0 []) a0.Rules)) (st_ldV (ds := [eL none (D.int .u16) a0.Init, .int .i64 0, .int .i64 0, .int .u16 0, eL (some 4) eapi_Pol [], eL (some 3) eapi_Rule a0.Rules]) rfl rfl (show 6 ≤ 6 by decide) rfl) ?_
   refine stepC (r := .bool r3) (ArgsOk.dt ArgsOk.nil') (c_law11_Small hr3) ?_
   refine q1 _ ?_
   exact nR [0]
  by_cases hc4 : (!r3) = true
  ·
   replace h := iteT hc4 h
   refine NWp.condT (t := (!r3)) rfl hc4 ?_
   refine NWp.opsJ ⟨tab [(2, vb true)], stab [], 0⟩ ?_ ?_
   ·
    refine q1 _ ?_
    exact nR []
   have hh := Option.some.inj h
   subst hh
   refine NWp.ret ?_
   show FQ _ _ _ _
   exact FQ.mk1 (.inr rfl) (res_t (v := vb true) rfl rfl) (RV.d trivial)
  ·
   replace h := iteF hc4 h
   refine NWp.condF (t := (!r3)) rfl hc4 ?_
   refine NWp.skip ?_
   obtain ⟨r5, hr5, h⟩ := bindE h
   refine NWp.opsJ ⟨tab [(1, .ptr 0 0 0), (3, .ptr 1 0 0), (4, vi r5.2)], stab [(0, .var [vl1 a0.Init, vi 0, vi 0, vh 0, vl3 [], vl4 a0.Rules]), (1, .var [.d (eL none (eL none (D.int .u16)) r5.1.States), vl0 r5.1.Edges])], 2⟩ ?_ ?_
   ·
    refine step (v := vs3 (api_Program.mk a0.Init (api_Pol.mk 0 0 0 []) a0.Rules)) (st_ldV (ds := [eL none (D.int .u16) a0.Init, .int .i64 0, .int .i64 0, .int .u16 0, eL (some 4) eapi_Pol [], eL (some 3) eapi_Rule a0.Rules]) rfl rfl (show 6 ≤ 6 by decide) rfl) ?_
    refine stepC (r := .tup [eapi_Space r5.1, .int .i64 r5.2]) (ArgsOk.dt ArgsOk.nil') (c_space_Explore hr5) ?_
    iterate 3 refine q1 _ ?_
    refine step (v := .ptr 1 0 0) (σ' := (upd (stab [(0, .var [vl1 a0.Init, vi 0, vi 0, vh 0, vl3 [], vl4 a0.Rules])]) 1 (some (.var [.d (eL none (eL none (D.int .u16)) []), vl0 []])))) (n' := 2) rfl ?_
    refine step (v := V.undef) (σ' := (upd (upd (stab [(0, .var [vl1 a0.Init, vi 0, vi 0, vh 0, vl3 [], vl4 a0.Rules])]) 1 (some (.var [.d (eL none (eL none (D.int .u16)) []), vl0 []]))) 1 (some (.var [.d (eL none (eL none (D.int .u16)) r5.1.States), vl0 r5.1.Edges])))) (n' := 2) rfl ?_
    refine q1 _ ?_
    exact nR [0, 1]
   obtain ⟨r6, hr6, h⟩ := bindE h
   refine NWp.opsJ ⟨tab [(3, .ptr 0 0 0), (4, vi r5.2), (5, .ptr 1 0 0), (6, vi r6.2)], stab [(0, .var [.d (eL none (eL none (D.int .u16)) r5.1.States), vl0 r5.1.Edges]), (1, .var [.d (eL none (eL none (D.int .u16)) r6.1.States), vl0 r6.1.Edges])], 2⟩ ?_ ?_
   ·
    refine step (v := vs3 (api_Program.mk a0.Init (api_Pol.mk 0 0 0 []) a0.Rules)) (st_ldV (ds := [eL none (D.int .u16) a0.Init, .int .i64 0, .int .i64 0, .int .u16 0, eL (some 4) eapi_Pol [], eL (some 3) eapi_Rule a0.Rules]) rfl rfl (show 6 ≤ 6 by decide) rfl) ?_
    refine stepC (r := .tup [eapi_Space r6.1, .int .i64 r6.2]) (ArgsOk.dt ArgsOk.nil') (c_ref11_Explore hr6) ?_
    iterate 3 refine q1 _ ?_
    refine step (v := .ptr 2 0 0) (σ' := (upd (stab [(0, .var [vl1 a0.Init, vi 0, vi 0, vh 0, vl3 [], vl4 a0.Rules]), (1, .var [.d (eL none (eL none (D.int .u16)) r5.1.States), vl0 r5.1.Edges])]) 2 (some (.var [.d (eL none (eL none (D.int .u16)) []), vl0 []])))) (n' := 3) rfl ?_
    refine step (v := V.undef) (σ' := (upd (upd (stab [(0, .var [vl1 a0.Init, vi 0, vi 0, vh 0, vl3 [], vl4 a0.Rules]), (1, .var [.d (eL none (eL none (D.int .u16)) r5.1.States), vl0 r5.1.Edges])]) 2 (some (.var [.d (eL none (eL none (D.int .u16)) []), vl0 []]))) 2 (some (.var [.d (eL none (eL none (D.int .u16)) r6.1.States), vl0 r6.1.Edges])))) (n' := 3) rfl ?_
    refine q1 _ ?_
    exact nR [1, 2]
   obtain ⟨y9, hv, h⟩ := bindE h
   refine NWp.opsJ ⟨tab [(2, vb y9)], stab [], 0⟩ ?_ ?_
   ·
    iterate 4 refine q1 _ ?_
    by_cases hg7 : (r5.2 == r6.2) = true
    ·
     replace hv := iteT hg7 hv
     obtain ⟨r8, hr8, hv⟩ := bindE hv
     refine qG _ hg7 ?_
     refine step (v := vs1 r5.1) (st_ldV (ds := [eL none (eL none (D.int .u16)) r5.1.States, eL (some 3) eapi_Edge r5.1.Edges]) rfl rfl (show 2 ≤ 2 by decide) rfl) ?_
     refine qG _ hg7 ?_
     refine step (v := vs1 r6.1) (st_ldV (ds := [eL none (eL none (D.int .u16)) r6.1.States, eL (some 3) eapi_Edge r6.1.Edges]) rfl rfl (show 2 ≤ 2 by decide) rfl) ?_
     refine qG _ hg7 ?_
     refine stepC (r := .bool r8) (ArgsOk.dt (ArgsOk.dt ArgsOk.nil')) (c_law11_Same hr8) ?_
     refine step (v := vb r8) (st_pickT (b := (r5.2 == r6.2)) rfl hg7 rfl) ?_
     refine q1 _ ?_
     have hh := Option.some.inj hv
     subst hh
     exact nR []
    ·
     replace hv := iteF hg7 hv
     iterate 3 refine qX _ hg7 ?_
     refine step (v := vb false) (st_pickF (b := (r5.2 == r6.2)) rfl hg7 rfl) ?_
     refine q1 _ ?_
     have hh := Option.some.inj hv
     subst hh
     exact nR []
   have hh := Option.some.inj h
   subst hh
   refine NWp.ret ?_
   show FQ _ _ _ _
   exact FQ.mk1 (.inr rfl) (res_t (v := vb y9) rfl rfl) (RV.d trivial)

end Go.AM
