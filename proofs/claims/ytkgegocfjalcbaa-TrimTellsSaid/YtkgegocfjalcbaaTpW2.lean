import Derived.Test.YtkgegocfjalcbaaTpW1
/-  What they are in the program: walks. -/
set_option linter.unusedVariables false
set_option linter.unusedSimpArgs false
namespace Go.AM
open Go Go.RowKit Go.Proofs

attribute [local irreducible] RunOps

theorem c_law05_Pile {a0 : (List law05_Step)} {r : (api_Pol × Bool)} (h : law05_Pile a0 = some r) : PCall Try.prog 36 [eL (some 4) elaw05_Step a0] (.tup [uapi_Pol r.1, .bool r.2]) := by
 refine PCall.introN ok36 (show 1 ≤ 123 by decide) ?_
 refine NWp.norm (s0 := ⟨tab [(0, vl4 a0)], stab [], 0⟩) (nr []) ?_
 refine NWp.opsJ ⟨tab [(0, vl4 a0), (2, .ptr 0 0 0)], stab [(0, bv0)], 1⟩ ?_ ?_
 ·
  refine step (v := .ptr 0 0 0) (σ' := (upd (stab []) 0 (some (bv0)))) (n' := 1) rfl ?_
  refine q1 (vb false) ?_
  exact nR [0]
 refine NWp.seq ?_
 refine NWp.opsJ ⟨tab [(0, vl4 a0), (2, .ptr 0 0 0), (12, vb (decide ((a0.length : Int) > 60)))], stab [(0, bv0)], 1⟩ ?_ ?_
 ·
  refine q1 (vl4 a0) ?_
  refine step (v := vi (a0.length : Int)) (st_len (xs := a0) (e := elaw05_Step) rfl) ?_
  refine q1 (vb (decide ((a0.length : Int) > 60))) ?_
  exact nR [0]
 by_cases hc1 : decide ((a0.length : Int) > 60) = true
 ·
  replace h := iteT hc1 h
  refine NWp.condT (t := decide ((a0.length : Int) > 60)) rfl hc1 ?_
  refine NWp.opsJ ⟨tab [(2, .ptr 0 0 0), (3, vb false)], stab [(0, bv0)], 1⟩ ?_ ?_
  ·
   refine step (v := vs0 (api_Pol.mk 0 0 0 [])) (st_build (ds := [.int .i64 0, .int .i64 0, .int .u16 0, eL (some 4) eapi_Pol []]) rfl) ?_
   refine step (v := V.undef) (σ' := (upd (stab [(0, bv0)]) 0 (some (bv0)))) (n' := 1) rfl ?_
   refine q1 (vb false) ?_
   exact nR [0]
  have hh := Option.some.inj h
  subst hh
  refine NWp.ret ?_
  show FQ _ _ _ _
  exact FQ.mkT (.inr rfl) (res_cell (ds := [.int .i64 0, .int .i64 0, .int .u16 0, eL (some 4) eapi_Pol []]) rfl rfl (show 4 ≤ 4 by decide) rfl (res_t (v := vb false) rfl rfl)) (RV.d (RV.d trivial))
 ·
  replace h := iteF hc1 h
  refine NWp.condF (t := decide ((a0.length : Int) > 60)) rfl hc1 ?_
  refine NWp.skip ?_
  refine NWp.opsJ ⟨tab [(0, vl4 a0), (2, .ptr 0 0 0), (4, .d (.nils))], stab [(0, bv0)], 1⟩ ?_ ?_
  ·
   refine q1 (.d (.nils)) ?_
   exact nR [0]
  refine NWp.seq ?_
  refine NWp.opsJ ⟨tab [(2, .ptr 0 0 0), (4, .d (.nils)), (14, vl4 a0), (15, vi (a0.length : Int)), (16, vi 0)], stab [(0, bv0)], 1⟩ ?_ ?_
  ·
   refine q1 (vl4 a0) ?_
   refine step (v := vi (a0.length : Int)) (st_len (xs := a0) (e := elaw05_Step) rfl) ?_
   refine q1 (vi 0) ?_
   exact nR [0]
  obtain ⟨z29, hl, h⟩ := bindE h
  refine NWp.norm (s0 := ⟨tab [(2, .ptr 0 0 0), (4, .loc 1 0 (([] : List api_Pol).length)), (14, vl4 a0), (15, vi (a0.length : Int)), (16, vi 0)], stab [(0, bv0), (1, .lst true (some 4) (List.map eapi_Pol ([] : List api_Pol)))], 2⟩) (Norm.trans (s2 := ⟨tab [(2, .ptr 0 0 0), (4, .loc 1 0 (([] : List api_Pol).length)), (14, vl4 a0), (15, vi (a0.length : Int)), (16, vi 0)], stab [(0, bv0), (1, .lst true (some 4) (List.map eapi_Pol ([] : List api_Pol)))], 2⟩) (Norm.nil1 4 true (some 4) rfl) (nr [0, 1])) ?_
  refine NWp.block ?_
  refine loop_forO (cntU (a0.length : Int)) (fun (i3 : Int) (qq : (List api_Pol)) => ⟨tab [(2, .ptr 0 0 0), (4, .loc 1 0 qq.length), (14, vl4 a0), (15, vi (a0.length : Int)), (16, vi i3)], stab [(0, bv0), (1, .lst true (some 4) (List.map eapi_Pol qq))], 2⟩) 0 (fun (qq : (List api_Pol)) => ⟨tab [(2, .ptr 0 0 0), (4, vl0 qq)], stab [(0, bv0)], 1⟩) Low low_step hl (by unfold Low; omega) ?_ ?_ ?_
  ·
   rintro i3 l2 xr8 hinv6 hgo5 h
   show NWp _ _ _ _ _ ⟨tab [(2, .ptr 0 0 0), (4, .loc 1 0 l2.length), (14, vl4 a0), (15, vi (a0.length : Int)), (16, vi i3)], stab [(0, bv0), (1, .lst true (some 4) (List.map eapi_Pol l2))], 2⟩
   have hc7 : decide (i3 < (a0.length : Int)) = true := decide_eq_true hgo5
   refine NWp.opsJ ⟨tab [(2, .ptr 0 0 0), (4, .loc 1 0 l2.length), (14, vl4 a0), (15, vi (a0.length : Int)), (16, vi i3), (17, vb (decide (i3 < (a0.length : Int))))], stab [(0, bv0), (1, .lst true (some 4) (List.map eapi_Pol l2))], 2⟩ ?_ ?_
   ·
    refine q1 (vb (decide (i3 < (a0.length : Int)))) ?_
    exact nR [0, 1]
   refine NWp.rng 15 rfl fun hB4 => ?_
   refine NWp.seq ?_
   refine NWp.condT (t := decide (i3 < (a0.length : Int))) rfl hc7 ?_
   refine NWp.skip ?_
   obtain ⟨l27, hv, h⟩ := bindE h
   refine NWp.seqN ⟨tab [(2, .ptr 0 0 0), (4, .loc 1 0 l27.length), (14, vl4 a0), (15, vi (a0.length : Int)), (16, vi i3)], stab [(0, bv0), (1, .lst true (some 4) (List.map eapi_Pol l27))], 2⟩ ?_ ?_
   ·
    replace h := hv
    refine NWp.block ?_
    obtain ⟨x9, hx9, h⟩ := bindE h
    refine NWp.opsJ ⟨tab [(2, .ptr 0 0 0), (4, .loc 1 0 l2.length), (6, .ptr 2 0 0), (14, vl4 a0), (15, vi (a0.length : Int)), (16, vi i3)], stab [(0, bv0), (1, .lst true (some 4) (List.map eapi_Pol l2)), (2, bv2 x9)], 3⟩ ?_ ?_
    ·
     refine step (v := .d (.cptr (some 4) (elaw05_Step x9) 0)) (st_iaddr (xs := a0) (e := elaw05_Step) hx9 rfl rfl) ?_
     refine q1 (.d (elaw05_Step x9)) ?_
     refine step (v := .ptr 2 0 0) (σ' := (upd (stab [(0, bv0), (1, .lst true (some 4) (List.map eapi_Pol l2))]) 2 (some (.var [vi 0, vi 0, vh 0, v8 0])))) (n' := 3) rfl ?_
     refine step (v := V.undef) (σ' := (upd (upd (stab [(0, bv0), (1, .lst true (some 4) (List.map eapi_Pol l2))]) 2 (some (.var [vi 0, vi 0, vh 0, v8 0]))) 2 (some (bv2 x9)))) (n' := 3) rfl ?_
     exact nR [0, 1, 2]
    refine NWp.opsJ ⟨tab [(2, .ptr 0 0 0), (4, .loc 1 0 l2.length), (6, .ptr 2 0 0), (7, vi (l2.length : Int)), (14, vl4 a0), (15, vi (a0.length : Int)), (16, vi i3)], stab [(0, bv0), (1, .lst true (some 4) (List.map eapi_Pol l2)), (2, bv2 x9)], 3⟩ ?_ ?_
    ·
     refine q1 (.loc 1 0 l2.length) ?_
     refine q1 (vi (l2.length : Int)) ?_
     refine q1 (vi (l2.length : Int)) ?_
     exact nR [0, 1, 2]
    refine NWp.block ?_
    refine NWp.opsJ ⟨tab [(2, .ptr 0 0 0), (4, .loc 1 0 l2.length), (6, .ptr 2 0 0), (7, vi (l2.length : Int)), (14, vl4 a0), (15, vi (a0.length : Int)), (16, vi i3), (22, vb ((x9.What == 0) || (x9.What == 1)))], stab [(0, bv0), (1, .lst true (some 4) (List.map eapi_Pol l2)), (2, bv2 x9)], 3⟩ ?_ ?_
    ·
     refine q1 (.ptr 2 0 0) ?_
     refine q1 (vi x9.What) ?_
     refine q1 (vb (x9.What == 0)) ?_
     refine q1 (vb (x9.What == 0)) ?_
     by_cases hg10 : (x9.What == 0) = true
     ·
      refine qX (x9.What == 0) (by rw [hg10]; decide) ?_
      refine qX (x9.What == 0) (by rw [hg10]; decide) ?_
      refine qX (x9.What == 0) (by rw [hg10]; decide) ?_
      refine step (v := vb true) (st_pickT (b := (x9.What == 0)) rfl hg10 rfl) ?_
      refine q1 (vb true) ?_
      exact RunOps.nil' (nm [0, 1, 2] ⟨.pt 0, .lc 1, .pt 2, .d _, .d _, .d _, .d _, .eq (by first | (simp [hg10]; done) | (simp_all; done) | grind), trivial⟩ ⟨⟨show 0 < 3 by decide, _, rfl, .vars ⟨.d _, .d _, .d _, .d _, trivial⟩⟩, ⟨show 1 < 3 by decide, _, rfl, .lst _ _ _⟩, ⟨show 2 < 3 by decide, _, rfl, .vars ⟨.d _, .d _, .d _, .d _, trivial⟩⟩, trivial⟩)
     ·
      refine qG (x9.What == 0) (Bool.eq_false_iff.2 hg10) ?_
      refine q1 (.ptr 2 0 0) ?_
      refine qG (x9.What == 0) (Bool.eq_false_iff.2 hg10) ?_
      refine q1 (vi x9.What) ?_
      refine qG (x9.What == 0) (Bool.eq_false_iff.2 hg10) ?_
      refine q1 (vb (x9.What == 1)) ?_
      refine step (v := vb (x9.What == 1)) (st_pickF (b := (x9.What == 0)) rfl hg10 rfl) ?_
      refine q1 (vb (x9.What == 1)) ?_
      exact RunOps.nil' (nm [0, 1, 2] ⟨.pt 0, .lc 1, .pt 2, .d _, .d _, .d _, .d _, .eq (by first | (simp [hg10]; done) | (simp_all; done) | grind), trivial⟩ ⟨⟨show 0 < 3 by decide, _, rfl, .vars ⟨.d _, .d _, .d _, .d _, trivial⟩⟩, ⟨show 1 < 3 by decide, _, rfl, .lst _ _ _⟩, ⟨show 2 < 3 by decide, _, rfl, .vars ⟨.d _, .d _, .d _, .d _, trivial⟩⟩, trivial⟩)
    by_cases hc11 : ((x9.What == 0) || (x9.What == 1)) = true
    ·
     replace h := iteT hc11 h
     refine NWp.condT (t := ((x9.What == 0) || (x9.What == 1))) rfl hc11 ?_
     obtain ⟨l12, hl12, h⟩ := bindE h
     have hh := Option.some.inj h
     subst hh
     refine NWp.opsE ⟨tab [(2, .ptr 0 0 0), (4, .loc 1 0 l12.length), (14, vl4 a0), (15, vi (a0.length : Int)), (16, vi i3)], stab [(0, bv0), (1, .lst true (some 4) (List.map eapi_Pol l12))], 2⟩ ?_ ?_
     ·
      refine q1 (.loc 1 0 l2.length) ?_
      refine q1 (.ptr 2 0 0) ?_
      refine q1 (vi x9.What) ?_
      refine step (v := vs0 (api_Pol.mk x9.What 0 0 [])) (st_build (ds := [.int .i64 x9.What, .int .i64 0, .int .u16 0, eL (some 4) eapi_Pol []]) rfl) ?_
      refine step (v := vl0 ([(api_Pol.mk x9.What 0 0 [])] : List api_Pol)) (st_eq rfl (by simp [eL, eu_api_Pol])) ?_
      refine step (v := .loc 3 0 l12.length) (σ' := (upd (upd (stab [(0, bv0), (1, .lst true (some 4) (List.map eapi_Pol l2)), (2, bv2 x9)]) 1 none) 3 (some (.lst true (some 4) (List.map eapi_Pol l12))))) (n' := 4) (st_app (xs := l2) (ys := ([(api_Pol.mk x9.What 0 0 [])] : List api_Pol)) (e := eapi_Pol) hl12 rfl rfl rfl (src_v (xs := ([(api_Pol.mk x9.What 0 0 [])] : List api_Pol)) (e := eapi_Pol) rfl)) ?_
      refine q1 (.loc 3 0 l12.length) ?_
      exact nR [0, 3]
     exact And.intro rfl rfl
    ·
     replace h := iteF hc11 h
     refine NWp.condF (t := ((x9.What == 0) || (x9.What == 1))) rfl hc11 ?_
     refine NWp.opsJ ⟨tab [(2, .ptr 0 0 0), (4, .loc 1 0 l2.length), (6, .ptr 2 0 0), (7, vi (l2.length : Int)), (14, vl4 a0), (15, vi (a0.length : Int)), (16, vi i3), (37, vb ((x9.What == 2) || ((x9.What == 3) || (x9.What == 5))))], stab [(0, bv0), (1, .lst true (some 4) (List.map eapi_Pol l2)), (2, bv2 x9)], 3⟩ ?_ ?_
     ·
      refine q1 (.ptr 2 0 0) ?_
      refine q1 (vi x9.What) ?_
      refine q1 (vb (x9.What == 2)) ?_
      refine q1 (vb (x9.What == 2)) ?_
      by_cases hg13 : (x9.What == 2) = true
      ·
       refine qX (x9.What == 2) (by rw [hg13]; decide) ?_
       refine qX (x9.What == 2) (by rw [hg13]; decide) ?_
       refine qX (x9.What == 2) (by rw [hg13]; decide) ?_
       refine step (v := vb true) (st_pickT (b := (x9.What == 2)) rfl hg13 rfl) ?_
       refine q1 (vb true) ?_
       refine qX true (by decide) ?_
       refine qX true (by decide) ?_
       refine qX true (by decide) ?_
       refine step (v := vb true) (st_pickT (b := true) rfl rfl rfl) ?_
       refine q1 (vb true) ?_
       exact RunOps.nil' (nm [0, 1, 2] ⟨.pt 0, .lc 1, .pt 2, .d _, .d _, .d _, .d _, .eq (by first | (simp [hg13]; done) | (simp_all; done) | grind), trivial⟩ ⟨⟨show 0 < 3 by decide, _, rfl, .vars ⟨.d _, .d _, .d _, .d _, trivial⟩⟩, ⟨show 1 < 3 by decide, _, rfl, .lst _ _ _⟩, ⟨show 2 < 3 by decide, _, rfl, .vars ⟨.d _, .d _, .d _, .d _, trivial⟩⟩, trivial⟩)
      ·
       refine qG (x9.What == 2) (Bool.eq_false_iff.2 hg13) ?_
       refine q1 (.ptr 2 0 0) ?_
       refine qG (x9.What == 2) (Bool.eq_false_iff.2 hg13) ?_
       refine q1 (vi x9.What) ?_
       refine qG (x9.What == 2) (Bool.eq_false_iff.2 hg13) ?_
       refine q1 (vb (x9.What == 3)) ?_
       refine step (v := vb (x9.What == 3)) (st_pickF (b := (x9.What == 2)) rfl hg13 rfl) ?_
       refine q1 (vb (x9.What == 3)) ?_
       by_cases hg14 : (x9.What == 3) = true
       ·
        refine qX (x9.What == 3) (by rw [hg14]; decide) ?_
        refine qX (x9.What == 3) (by rw [hg14]; decide) ?_
        refine qX (x9.What == 3) (by rw [hg14]; decide) ?_
        refine step (v := vb true) (st_pickT (b := (x9.What == 3)) rfl hg14 rfl) ?_
        refine q1 (vb true) ?_
        exact RunOps.nil' (nm [0, 1, 2] ⟨.pt 0, .lc 1, .pt 2, .d _, .d _, .d _, .d _, .eq (by first | (simp [hg13, hg14]; done) | (simp_all; done) | grind), trivial⟩ ⟨⟨show 0 < 3 by decide, _, rfl, .vars ⟨.d _, .d _, .d _, .d _, trivial⟩⟩, ⟨show 1 < 3 by decide, _, rfl, .lst _ _ _⟩, ⟨show 2 < 3 by decide, _, rfl, .vars ⟨.d _, .d _, .d _, .d _, trivial⟩⟩, trivial⟩)
       ·
        refine qG (x9.What == 3) (Bool.eq_false_iff.2 hg14) ?_
        refine q1 (.ptr 2 0 0) ?_
        refine qG (x9.What == 3) (Bool.eq_false_iff.2 hg14) ?_
        refine q1 (vi x9.What) ?_
        refine qG (x9.What == 3) (Bool.eq_false_iff.2 hg14) ?_
        refine q1 (vb (x9.What == 5)) ?_
        refine step (v := vb (x9.What == 5)) (st_pickF (b := (x9.What == 3)) rfl hg14 rfl) ?_
        refine q1 (vb (x9.What == 5)) ?_
        exact RunOps.nil' (nm [0, 1, 2] ⟨.pt 0, .lc 1, .pt 2, .d _, .d _, .d _, .d _, .eq (by first | (simp [hg13, hg14]; done) | (simp_all; done) | grind), trivial⟩ ⟨⟨show 0 < 3 by decide, _, rfl, .vars ⟨.d _, .d _, .d _, .d _, trivial⟩⟩, ⟨show 1 < 3 by decide, _, rfl, .lst _ _ _⟩, ⟨show 2 < 3 by decide, _, rfl, .vars ⟨.d _, .d _, .d _, .d _, trivial⟩⟩, trivial⟩)
     by_cases hc15 : ((x9.What == 2) || ((x9.What == 3) || (x9.What == 5))) = true
     ·
      replace h := iteT hc15 h
      refine NWp.condT (t := ((x9.What == 2) || ((x9.What == 3) || (x9.What == 5)))) rfl hc15 ?_
      obtain ⟨l16, hl16, h⟩ := bindE h
      have hh := Option.some.inj h
      subst hh
      refine NWp.opsE ⟨tab [(2, .ptr 0 0 0), (4, .loc 1 0 l16.length), (14, vl4 a0), (15, vi (a0.length : Int)), (16, vi i3)], stab [(0, bv0), (1, .lst true (some 4) (List.map eapi_Pol l16))], 2⟩ ?_ ?_
      ·
       refine q1 (.loc 1 0 l2.length) ?_
       refine q1 (.ptr 2 0 0) ?_
       refine q1 (vi x9.What) ?_
       refine q1 (.ptr 2 0 1) ?_
       refine q1 (vi x9.F) ?_
       refine q1 (.ptr 2 0 2) ?_
       refine q1 (vh x9.N) ?_
       refine step (v := vs0 (api_Pol.mk x9.What x9.F x9.N [])) (st_build (ds := [.int .i64 x9.What, .int .i64 x9.F, .int .u16 x9.N, eL (some 4) eapi_Pol []]) rfl) ?_
       refine step (v := vl0 ([(api_Pol.mk x9.What x9.F x9.N [])] : List api_Pol)) (st_eq rfl (by simp [eL, eu_api_Pol])) ?_
       refine step (v := .loc 3 0 l16.length) (σ' := (upd (upd (stab [(0, bv0), (1, .lst true (some 4) (List.map eapi_Pol l2)), (2, bv2 x9)]) 1 none) 3 (some (.lst true (some 4) (List.map eapi_Pol l16))))) (n' := 4) (st_app (xs := l2) (ys := ([(api_Pol.mk x9.What x9.F x9.N [])] : List api_Pol)) (e := eapi_Pol) hl16 rfl rfl rfl (src_v (xs := ([(api_Pol.mk x9.What x9.F x9.N [])] : List api_Pol)) (e := eapi_Pol) rfl)) ?_
       refine q1 (.loc 3 0 l16.length) ?_
       exact nR [0, 3]
      exact And.intro rfl rfl
     ·
      replace h := iteF hc15 h
      refine NWp.condF (t := ((x9.What == 2) || ((x9.What == 3) || (x9.What == 5)))) rfl hc15 ?_
      refine NWp.opsJ ⟨tab [(2, .ptr 0 0 0), (4, .loc 1 0 l2.length), (6, .ptr 2 0 0), (7, vi (l2.length : Int)), (14, vl4 a0), (15, vi (a0.length : Int)), (16, vi i3), (61, vb ((x9.What == 4) && (decide ((l2.length : Int) > 0))))], stab [(0, bv0), (1, .lst true (some 4) (List.map eapi_Pol l2)), (2, bv2 x9)], 3⟩ ?_ ?_
      ·
       refine q1 (.ptr 2 0 0) ?_
       refine q1 (vi x9.What) ?_
       refine q1 (vb (x9.What == 4)) ?_
       refine q1 (vb (x9.What == 4)) ?_
       by_cases hg17 : (x9.What == 4) = true
       ·
        refine qG (x9.What == 4) hg17 ?_
        refine q1 (vi (l2.length : Int)) ?_
        refine qG (x9.What == 4) hg17 ?_
        refine q1 (vb (decide ((l2.length : Int) > 0))) ?_
        refine step (v := vb (decide ((l2.length : Int) > 0))) (st_pickT (b := (x9.What == 4)) rfl hg17 rfl) ?_
        refine q1 (vb (decide ((l2.length : Int) > 0))) ?_
        exact RunOps.nil' (nm [0, 1, 2] ⟨.pt 0, .lc 1, .pt 2, .d _, .d _, .d _, .d _, .eq (by first | (simp [hg17]; done) | (simp_all; done) | grind), trivial⟩ ⟨⟨show 0 < 3 by decide, _, rfl, .vars ⟨.d _, .d _, .d _, .d _, trivial⟩⟩, ⟨show 1 < 3 by decide, _, rfl, .lst _ _ _⟩, ⟨show 2 < 3 by decide, _, rfl, .vars ⟨.d _, .d _, .d _, .d _, trivial⟩⟩, trivial⟩)
       ·
        refine qX (x9.What == 4) hg17 ?_
        refine qX (x9.What == 4) hg17 ?_
        refine step (v := vb false) (st_pickF (b := (x9.What == 4)) rfl hg17 rfl) ?_
        refine q1 (vb false) ?_
        exact RunOps.nil' (nm [0, 1, 2] ⟨.pt 0, .lc 1, .pt 2, .d _, .d _, .d _, .d _, .eq (by first | (simp [hg17]; done) | (simp_all; done) | grind), trivial⟩ ⟨⟨show 0 < 3 by decide, _, rfl, .vars ⟨.d _, .d _, .d _, .d _, trivial⟩⟩, ⟨show 1 < 3 by decide, _, rfl, .lst _ _ _⟩, ⟨show 2 < 3 by decide, _, rfl, .vars ⟨.d _, .d _, .d _, .d _, trivial⟩⟩, trivial⟩)
      by_cases hc18 : ((x9.What == 4) && (decide ((l2.length : Int) > 0))) = true
      ·
       replace h := iteT hc18 h
       refine NWp.condT (t := ((x9.What == 4) && (decide ((l2.length : Int) > 0)))) rfl hc18 ?_
       obtain ⟨x19, hx19, h⟩ := bindE h
       obtain ⟨l20, hl20, h⟩ := bindE h
       have hh := Option.some.inj h
       subst hh
       refine NWp.opsE ⟨tab [(2, .ptr 0 0 0), (4, .loc 1 0 l20.length), (14, vl4 a0), (15, vi (a0.length : Int)), (16, vi i3)], stab [(0, bv0), (1, .lst true (some 4) (List.map eapi_Pol l20))], 2⟩ ?_ ?_
       ·
        refine q1 (.loc 1 0 l2.length) ?_
        refine q1 (vi (l2.length : Int)) ?_
        refine q1 (vi (IntKind.i64.wrap ((l2.length : Int) - 1))) ?_
        refine q1 (.loc 1 0 l2.length) ?_
        refine q1 (vi (l2.length : Int)) ?_
        refine q1 (vi (IntKind.i64.wrap ((l2.length : Int) - 1))) ?_
        refine step (v := .ptr 1 (IntKind.i64.wrap ((l2.length : Int) - 1)).toNat 0) (st_iaddrL (xs := l2) (e := eapi_Pol) hx19 rfl rfl rfl rfl) ?_
        refine step (v := vs0 x19) (st_loadLU (xs := l2) (e := eapi_Pol) hx19 rfl rfl (eu_api_Pol _) rfl) ?_
        refine step (v := vl0 ([x19] : List api_Pol)) (st_eq rfl (by simp [eL, eu_api_Pol])) ?_
        refine step (v := vs0 (api_Pol.mk 4 0 0 ([x19] : List api_Pol))) (st_build (ds := [.int .i64 4, .int .i64 0, .int .u16 0, eL (some 4) eapi_Pol ([x19] : List api_Pol)]) rfl) ?_
        refine step (v := .ptr 1 (IntKind.i64.wrap ((l2.length : Int) - 1)).toNat 0) (st_iaddrL (xs := l2) (e := eapi_Pol) hx19 rfl rfl rfl rfl) ?_
        refine step (v := V.undef) (σ' := (upd (stab [(0, bv0), (1, .lst true (some 4) (List.map eapi_Pol l2)), (2, bv2 x9)]) 1 (some (.lst true (some 4) (List.map eapi_Pol l20))))) (n' := 3) (st_storeLU' (e := eapi_Pol) (v' := (api_Pol.mk 4 0 0 ([x19] : List api_Pol))) hl20 rfl rfl rfl (eu_api_Pol _) rfl rfl) ?_
        exact RunOps.nil' (nm [0, 1] ⟨.pt 0, .le (id := 1) (gput_len hl20).symm (show 1 < 2 by decide), .d _, .d _, .d _, trivial⟩ ⟨⟨show 0 < 2 by decide, _, rfl, .vars ⟨.d _, .d _, .d _, .d _, trivial⟩⟩, ⟨show 1 < 2 by decide, _, rfl, .lst _ _ _⟩, trivial⟩)
       exact And.intro rfl rfl
      ·
       replace h := iteF hc18 h
       refine NWp.condF (t := ((x9.What == 4) && (decide ((l2.length : Int) > 0)))) rfl hc18 ?_
       refine NWp.opsJ ⟨tab [(2, .ptr 0 0 0), (4, .loc 1 0 l2.length), (6, .ptr 2 0 0), (7, vi (l2.length : Int)), (14, vl4 a0), (15, vi (a0.length : Int)), (16, vi i3), (80, vb ((x9.What == 6) || (x9.What == 7)))], stab [(0, bv0), (1, .lst true (some 4) (List.map eapi_Pol l2)), (2, bv2 x9)], 3⟩ ?_ ?_
       ·
        refine q1 (.ptr 2 0 0) ?_
        refine q1 (vi x9.What) ?_
        refine q1 (vb (x9.What == 6)) ?_
        refine q1 (vb (x9.What == 6)) ?_
        by_cases hg21 : (x9.What == 6) = true
        ·
         refine qX (x9.What == 6) (by rw [hg21]; decide) ?_
         refine qX (x9.What == 6) (by rw [hg21]; decide) ?_
         refine qX (x9.What == 6) (by rw [hg21]; decide) ?_
         refine step (v := vb true) (st_pickT (b := (x9.What == 6)) rfl hg21 rfl) ?_
         refine q1 (vb true) ?_
         exact RunOps.nil' (nm [0, 1, 2] ⟨.pt 0, .lc 1, .pt 2, .d _, .d _, .d _, .d _, .eq (by first | (simp [hg21]; done) | (simp_all; done) | grind), trivial⟩ ⟨⟨show 0 < 3 by decide, _, rfl, .vars ⟨.d _, .d _, .d _, .d _, trivial⟩⟩, ⟨show 1 < 3 by decide, _, rfl, .lst _ _ _⟩, ⟨show 2 < 3 by decide, _, rfl, .vars ⟨.d _, .d _, .d _, .d _, trivial⟩⟩, trivial⟩)
        ·
         refine qG (x9.What == 6) (Bool.eq_false_iff.2 hg21) ?_
         refine q1 (.ptr 2 0 0) ?_
         refine qG (x9.What == 6) (Bool.eq_false_iff.2 hg21) ?_
         refine q1 (vi x9.What) ?_
         refine qG (x9.What == 6) (Bool.eq_false_iff.2 hg21) ?_
         refine q1 (vb (x9.What == 7)) ?_
         refine step (v := vb (x9.What == 7)) (st_pickF (b := (x9.What == 6)) rfl hg21 rfl) ?_
         refine q1 (vb (x9.What == 7)) ?_
         exact RunOps.nil' (nm [0, 1, 2] ⟨.pt 0, .lc 1, .pt 2, .d _, .d _, .d _, .d _, .eq (by first | (simp [hg21]; done) | (simp_all; done) | grind), trivial⟩ ⟨⟨show 0 < 3 by decide, _, rfl, .vars ⟨.d _, .d _, .d _, .d _, trivial⟩⟩, ⟨show 1 < 3 by decide, _, rfl, .lst _ _ _⟩, ⟨show 2 < 3 by decide, _, rfl, .vars ⟨.d _, .d _, .d _, .d _, trivial⟩⟩, trivial⟩)
       by_cases hc22 : ((x9.What == 6) || (x9.What == 7)) = true
       ·
        replace h := iteT hc22 h
        refine NWp.condT (t := ((x9.What == 6) || (x9.What == 7))) rfl hc22 ?_
        refine NWp.opsJ ⟨tab [(2, .ptr 0 0 0), (4, .loc 1 0 l2.length), (6, .ptr 2 0 0), (7, vi (l2.length : Int)), (8, vi (imin (IntKind.i64.wrap x9.K) (l2.length : Int))), (14, vl4 a0), (15, vi (a0.length : Int)), (16, vi i3)], stab [(0, bv0), (1, .lst true (some 4) (List.map eapi_Pol l2)), (2, bv2 x9)], 3⟩ ?_ ?_
        ·
         refine q1 (.ptr 2 0 3) ?_
         refine q1 (v8 x9.K) ?_
         refine q1 (vi (IntKind.i64.wrap x9.K)) ?_
         refine q1 (vi (l2.length : Int)) ?_
         refine q1 (vi (imin (IntKind.i64.wrap x9.K) (l2.length : Int))) ?_
         refine q1 (vi (imin (IntKind.i64.wrap x9.K) (l2.length : Int))) ?_
         exact nR [0, 1, 2]
        obtain ⟨l23, hl23, h⟩ := bindE h
        obtain ⟨l24, hl24, h⟩ := bindE h
        refine NWp.opsJ ⟨tab [(2, .ptr 0 0 0), (4, .loc 1 0 l2.length), (6, .ptr 2 0 0), (7, vi (l2.length : Int)), (8, vi (imin (IntKind.i64.wrap x9.K) (l2.length : Int))), (9, vl0 l24), (14, vl4 a0), (15, vi (a0.length : Int)), (16, vi i3)], stab [(0, bv0), (1, .lst true (some 4) (List.map eapi_Pol l2)), (2, bv2 x9)], 3⟩ ?_ ?_
        ·
         refine step (v := .loc 3 0 (([] : List api_Pol).length)) (σ' := (upd (stab [(0, bv0), (1, .lst true (some 4) (List.map eapi_Pol l2)), (2, bv2 x9)]) 3 (some (.lst false (some 4) (List.map eapi_Pol ([] : List api_Pol)))))) (n' := 4) rfl ?_
         refine q1 (.loc 1 0 l2.length) ?_
         refine q1 (vi (l2.length : Int)) ?_
         refine q1 (vi (imin (IntKind.i64.wrap x9.K) (l2.length : Int))) ?_
         refine q1 (vi (IntKind.i64.wrap ((l2.length : Int) - (imin (IntKind.i64.wrap x9.K) (l2.length : Int))))) ?_
         refine step (v := .loc 1 (IntKind.i64.wrap ((l2.length : Int) - (imin (IntKind.i64.wrap x9.K) (l2.length : Int)))).toNat ((l2.length : Int).toNat - (IntKind.i64.wrap ((l2.length : Int) - (imin (IntKind.i64.wrap x9.K) (l2.length : Int)))).toNat)) (st_slcL (xs := l2) (e := eapi_Pol) hl23 rfl rfl rfl ⟨_, rfl⟩ rfl) ?_
         refine step (v := .loc 4 0 l24.length) (σ' := (upd (upd (upd (stab [(0, bv0), (1, .lst true (some 4) (List.map eapi_Pol l2)), (2, bv2 x9)]) 3 (some (.lst false (some 4) (List.map eapi_Pol ([] : List api_Pol))))) 3 none) 4 (some (.lst false (some 4) (List.map eapi_Pol l24))))) (n' := 5) (st_app (xs := ([] : List api_Pol)) (ys := l23) (e := eapi_Pol) hl24 rfl rfl rfl (src_w (xs := l2) (e := eapi_Pol) hl23 rfl rfl)) ?_
         refine q1 (.loc 4 0 l24.length) ?_
         exact RunOps.nil' (Norm.trans (s2 := ⟨tab [(2, .ptr 0 0 0), (4, .loc 1 0 l2.length), (6, .ptr 2 0 0), (7, vi (l2.length : Int)), (8, vi (imin (IntKind.i64.wrap x9.K) (l2.length : Int))), (9, vl0 l24), (14, vl4 a0), (15, vi (a0.length : Int)), (16, vi i3)], stab [(0, bv0), (1, .lst true (some 4) (List.map eapi_Pol l2)), (2, bv2 x9)], 3⟩) (Norm.imm1 [9, 100] (id := 4) (m := false) (k := (some 4)) (xs := l24) (e := eapi_Pol) rfl (fun t ht => by simp at ht; rcases ht with rfl | rfl <;> exact ⟨_, rfl, rfl⟩)) (nr [0, 1, 2]))
        obtain ⟨l25, hl25, h⟩ := bindE h
        obtain ⟨l26, hl26, h⟩ := bindE h
        have hh := Option.some.inj h
        subst hh
        refine NWp.opsE ⟨tab [(2, .ptr 0 0 0), (4, .loc 1 0 l26.length), (14, vl4 a0), (15, vi (a0.length : Int)), (16, vi i3)], stab [(0, bv0), (1, .lst true (some 4) (List.map eapi_Pol l26))], 2⟩ ?_ ?_
        ·
         refine q1 (.loc 1 0 l2.length) ?_
         refine q1 (vi (l2.length : Int)) ?_
         refine q1 (vi (imin (IntKind.i64.wrap x9.K) (l2.length : Int))) ?_
         refine q1 (vi (IntKind.i64.wrap ((l2.length : Int) - (imin (IntKind.i64.wrap x9.K) (l2.length : Int))))) ?_
         refine step (v := .loc 1 (0 : Int).toNat ((IntKind.i64.wrap ((l2.length : Int) - (imin (IntKind.i64.wrap x9.K) (l2.length : Int)))).toNat - (0 : Int).toNat)) (st_slcL (xs := l2) (e := eapi_Pol) hl25 rfl rfl rfl rfl ⟨_, rfl⟩) ?_
         refine q1 (.ptr 2 0 0) ?_
         refine q1 (vi x9.What) ?_
         refine q1 (vl0 l24) ?_
         refine step (v := vs0 (api_Pol.mk x9.What 0 0 l24)) (st_build (ds := [.int .i64 x9.What, .int .i64 0, .int .u16 0, eL (some 4) eapi_Pol l24]) rfl) ?_
         refine step (v := vl0 ([(api_Pol.mk x9.What 0 0 l24)] : List api_Pol)) (st_eq rfl (by simp [eL, eu_api_Pol])) ?_
         refine step (v := .loc 3 0 l26.length) (σ' := (upd (upd (stab [(0, bv0), (1, .lst true (some 4) (List.map eapi_Pol l2)), (2, bv2 x9)]) 1 none) 3 (some (.lst true (some 4) (List.map eapi_Pol l26))))) (n' := 4) (st_appC (xs := l2) (ys := ([(api_Pol.mk x9.What 0 0 l24)] : List api_Pol)) (e := eapi_Pol) hl25 hl26 rfl rfl (fun σ2 hq => (src_v (xs := ([(api_Pol.mk x9.What 0 0 l24)] : List api_Pol)) (e := eapi_Pol) rfl))) ?_
         refine q1 (.loc 3 0 l26.length) ?_
         exact nR [0, 3]
        exact And.intro rfl rfl
       ·
        replace h := iteF hc22 h
        refine NWp.condF (t := ((x9.What == 6) || (x9.What == 7))) rfl hc22 ?_
        have hh := Option.some.inj h
        subst hh
        refine NWp.norm (s0 := ⟨tab [(2, .ptr 0 0 0), (4, .loc 1 0 l2.length), (14, vl4 a0), (15, vi (a0.length : Int)), (16, vi i3)], stab [(0, bv0), (1, .lst true (some 4) (List.map eapi_Pol l2))], 2⟩) (nr [0, 1]) ?_
        refine NWp.skip ?_
        exact And.intro rfl rfl
   have hh := Option.some.inj h
   subst hh
   refine NWp.opsE ⟨tab [(2, .ptr 0 0 0), (4, .loc 1 0 l27.length), (14, vl4 a0), (15, vi (a0.length : Int)), (16, vi (i3 + 1))], stab [(0, bv0), (1, .lst true (some 4) (List.map eapi_Pol l27))], 2⟩ ?_ ?_
   ·
    refine step (v := vi (i3 + 1)) (st_inc (inc_ok hinv6 hgo5 hB4) rfl rfl) ?_
    refine q1 (vi (i3 + 1)) ?_
    exact nR [0, 1]
   exact And.intro rfl rfl
  ·
   rintro i3 l2 hinv6 hgo5
   show NWp _ _ _ _ _ ⟨tab [(2, .ptr 0 0 0), (4, .loc 1 0 l2.length), (14, vl4 a0), (15, vi (a0.length : Int)), (16, vi i3)], stab [(0, bv0), (1, .lst true (some 4) (List.map eapi_Pol l2))], 2⟩
   have hc7 : ¬ (decide (i3 < (a0.length : Int)) = true) := fun hq => hgo5 (of_decide_eq_true hq)
   refine NWp.opsJ ⟨tab [(2, .ptr 0 0 0), (4, .loc 1 0 l2.length), (14, vl4 a0), (15, vi (a0.length : Int)), (16, vi i3), (17, vb (decide (i3 < (a0.length : Int))))], stab [(0, bv0), (1, .lst true (some 4) (List.map eapi_Pol l2))], 2⟩ ?_ ?_
   ·
    refine q1 (vb (decide (i3 < (a0.length : Int)))) ?_
    exact nR [0, 1]
   refine NWp.seq ?_
   refine NWp.condF (t := decide (i3 < (a0.length : Int))) rfl hc7 ?_
   refine NWp.norm (s0 := ⟨tab [(2, .ptr 0 0 0), (4, vl0 l2)], stab [(0, bv0)], 1⟩) (Norm.trans (s2 := ⟨tab [(2, .ptr 0 0 0), (4, vl0 l2)], stab [(0, bv0)], 1⟩) (Norm.imm1 [4] (id := 1) (m := true) (k := (some 4)) (xs := l2) (e := eapi_Pol) rfl (fun t ht => by cases ht with | head => exact ⟨_, rfl, rfl⟩ | tail _ h => cases h)) (nr [0])) ?_
   refine NWp.exit ?_
   exact And.intro rfl rfl
  refine NWp.seq ?_
  refine NWp.opsJ ⟨tab [(2, .ptr 0 0 0), (4, vl0 z29), (115, vb ((z29.length : Int) == 0))], stab [(0, bv0)], 1⟩ ?_ ?_
  ·
   refine q1 (vl0 z29) ?_
   refine step (v := vi (z29.length : Int)) (st_len (xs := z29) (e := eapi_Pol) rfl) ?_
   refine q1 (vb ((z29.length : Int) == 0)) ?_
   exact nR [0]
  by_cases hc30 : ((z29.length : Int) == 0) = true
  ·
   replace h := iteT hc30 h
   refine NWp.condT (t := ((z29.length : Int) == 0)) rfl hc30 ?_
   refine NWp.opsJ ⟨tab [(2, .ptr 0 0 0), (3, vb false)], stab [(0, bv0)], 1⟩ ?_ ?_
   ·
    refine step (v := vs0 (api_Pol.mk 0 0 0 [])) (st_build (ds := [.int .i64 0, .int .i64 0, .int .u16 0, eL (some 4) eapi_Pol []]) rfl) ?_
    refine step (v := V.undef) (σ' := (upd (stab [(0, bv0)]) 0 (some (bv0)))) (n' := 1) rfl ?_
    refine q1 (vb false) ?_
    exact nR [0]
   have hh := Option.some.inj h
   subst hh
   refine NWp.ret ?_
   show FQ _ _ _ _
   exact FQ.mkT (.inr rfl) (res_cell (ds := [.int .i64 0, .int .i64 0, .int .u16 0, eL (some 4) eapi_Pol []]) rfl rfl (show 4 ≤ 4 by decide) rfl (res_t (v := vb false) rfl rfl)) (RV.d (RV.d trivial))
  ·
   replace h := iteF hc30 h
   refine NWp.condF (t := ((z29.length : Int) == 0)) rfl hc30 ?_
   refine NWp.skip ?_
   obtain ⟨x31, hx31, h⟩ := bindE h
   refine NWp.opsJ ⟨tab [(2, .ptr 0 0 0), (3, vb true)], stab [(0, bv1 x31)], 1⟩ ?_ ?_
   ·
    refine q1 (vl0 z29) ?_
    refine q1 (vl0 z29) ?_
    refine step (v := vi (z29.length : Int)) (st_len (xs := z29) (e := eapi_Pol) rfl) ?_
    refine q1 (vi (IntKind.i64.wrap ((z29.length : Int) - 1))) ?_
    refine step (v := vp0 x31) (st_iaddrU (xs := z29) (e := eapi_Pol) hx31 rfl rfl (eu_api_Pol _)) ?_
    refine q1 (vs0 x31) ?_
    refine step (v := V.undef) (σ' := (upd (stab [(0, bv0)]) 0 (some (bv1 x31)))) (n' := 1) rfl ?_
    refine q1 (vb true) ?_
    exact nR [0]
   have hh := Option.some.inj h
   subst hh
   refine NWp.ret ?_
   show FQ _ _ _ _
   exact FQ.mkT (.inr rfl) (res_cell (ds := [.int .i64 x31.Op, .int .i64 x31.F, .int .u16 x31.N, eL (some 4) eapi_Pol x31.Kids]) rfl rfl (show 4 ≤ 4 by decide) rfl (res_t (v := vb true) rfl rfl)) (RV.d (RV.d trivial))

theorem c_law11_Small {a0 : api_Program} {r : Bool} (h : law11_Small a0 = some r) : PCall Try.prog 24 [eapi_Program a0] (.bool r) := by
 refine PCall.introN ok24 (show 1 ≤ 39 by decide) ?_
 refine NWp.norm (s0 := ⟨tab [(0, vs1 a0)], stab [], 0⟩) (nr []) ?_
 refine NWp.opsJ ⟨tab [(1, vp1 a0)], stab [], 0⟩ ?_ ?_
 ·
  refine q1 (vp1 a0) ?_
  refine q1 (vb false) ?_
  exact nR []
 refine NWp.seq ?_
 refine NWp.opsJ ⟨tab [(1, vp1 a0), (14, vb ((decide ((a0.Init.length : Int) > 5)) || (decide ((a0.Rules.length : Int) > 26))))], stab [], 0⟩ ?_ ?_
 ·
  refine q1 (vp1 a0) ?_
  refine q1 (vl3 a0.Init) ?_
  refine step (v := vi (a0.Init.length : Int)) (st_len (xs := a0.Init) (e := (D.int .u16)) rfl) ?_
  refine q1 (vb (decide ((a0.Init.length : Int) > 5))) ?_
  refine q1 (vb (decide ((a0.Init.length : Int) > 5))) ?_
  by_cases hg1 : decide ((a0.Init.length : Int) > 5) = true
  ·
   refine qX (decide ((a0.Init.length : Int) > 5)) (by rw [hg1]; decide) ?_
   refine qX (decide ((a0.Init.length : Int) > 5)) (by rw [hg1]; decide) ?_
   refine qX (decide ((a0.Init.length : Int) > 5)) (by rw [hg1]; decide) ?_
   refine qX (decide ((a0.Init.length : Int) > 5)) (by rw [hg1]; decide) ?_
   refine step (v := vb true) (st_pickT (b := decide ((a0.Init.length : Int) > 5)) rfl hg1 rfl) ?_
   exact RunOps.nil' (nm [] ⟨.d _, .eq (by first | (simp [hg1]; done) | (simp_all; done) | grind), trivial⟩ trivial)
  ·
   refine qG (decide ((a0.Init.length : Int) > 5)) (Bool.eq_false_iff.2 hg1) ?_
   refine q1 (.d (.cptr (some 6) (eapi_Program a0) 5)) ?_
   refine qG (decide ((a0.Init.length : Int) > 5)) (Bool.eq_false_iff.2 hg1) ?_
   refine q1 (vl2 a0.Rules) ?_
   refine qG (decide ((a0.Init.length : Int) > 5)) (Bool.eq_false_iff.2 hg1) ?_
   refine step (v := vi (a0.Rules.length : Int)) (st_len (xs := a0.Rules) (e := eapi_Rule) rfl) ?_
   refine qG (decide ((a0.Init.length : Int) > 5)) (Bool.eq_false_iff.2 hg1) ?_
   refine q1 (vb (decide ((a0.Rules.length : Int) > 26))) ?_
   refine step (v := vb (decide ((a0.Rules.length : Int) > 26))) (st_pickF (b := decide ((a0.Init.length : Int) > 5)) rfl hg1 rfl) ?_
   exact RunOps.nil' (nm [] ⟨.d _, .eq (by first | (simp [hg1]; done) | (simp_all; done) | grind), trivial⟩ trivial)
 by_cases hc2 : ((decide ((a0.Init.length : Int) > 5)) || (decide ((a0.Rules.length : Int) > 26))) = true
 ·
  replace h := iteT hc2 h
  refine NWp.condT (t := ((decide ((a0.Init.length : Int) > 5)) || (decide ((a0.Rules.length : Int) > 26)))) rfl hc2 ?_
  refine NWp.opsJ ⟨tab [(2, vb false)], stab [], 0⟩ ?_ ?_
  ·
   refine q1 (vb false) ?_
   exact nR []
  have hh := Option.some.inj h
  subst hh
  refine NWp.ret ?_
  show FQ _ _ _ _
  exact FQ.mk1 (.inr rfl) (res_t (v := vb false) rfl rfl) (RV.d trivial)
 ·
  replace h := iteF hc2 h
  refine NWp.condF (t := ((decide ((a0.Init.length : Int) > 5)) || (decide ((a0.Rules.length : Int) > 26)))) rfl hc2 ?_
  refine NWp.skip ?_
  refine NWp.seq ?_
  refine NWp.opsJ ⟨tab [(16, vl2 a0.Rules), (17, vi (a0.Rules.length : Int)), (18, vi 0)], stab [], 0⟩ ?_ ?_
  ·
   refine q1 (.d (.cptr (some 6) (eapi_Program a0) 5)) ?_
   refine q1 (vl2 a0.Rules) ?_
   refine step (v := vi (a0.Rules.length : Int)) (st_len (xs := a0.Rules) (e := eapi_Rule) rfl) ?_
   refine q1 (vi 0) ?_
   exact nR []
  obtain ⟨q13, hl, h⟩ := bindE h
  refine NWp.block ?_
  refine loop_forR (cntU (a0.Rules.length : Int)) (fun (i3 : Int) (qq : Unit) => ⟨tab [(16, vl2 a0.Rules), (17, vi (a0.Rules.length : Int)), (18, vi i3)], stab [], 0⟩) 0 (fun (qq : Unit) => ⟨tab [], stab [], 0⟩) Low low_step (r := r) hl (by unfold Low; omega) ?_ ?_ ?_ ?_
  ·
   rintro i3 ⟨⟩ xr8 hinv6 hgo5 h
   show NWp _ _ _ _ _ ⟨tab [(16, vl2 a0.Rules), (17, vi (a0.Rules.length : Int)), (18, vi i3)], stab [], 0⟩
   have hc7 : decide (i3 < (a0.Rules.length : Int)) = true := decide_eq_true hgo5
   refine NWp.opsJ ⟨tab [(16, vl2 a0.Rules), (17, vi (a0.Rules.length : Int)), (18, vi i3), (19, vb (decide (i3 < (a0.Rules.length : Int))))], stab [], 0⟩ ?_ ?_
   ·
    refine q1 (vb (decide (i3 < (a0.Rules.length : Int)))) ?_
    exact nR []
   refine NWp.rng 17 rfl fun hB4 => ?_
   refine NWp.seq ?_
   refine NWp.condT (t := decide (i3 < (a0.Rules.length : Int))) rfl hc7 ?_
   refine NWp.skip ?_
   refine NWp.seq ?_
   refine NWp.block ?_
   obtain ⟨x9, hx9, h⟩ := bindE h
   refine NWp.opsJ ⟨tab [(4, .ptr 0 0 0), (16, vl2 a0.Rules), (17, vi (a0.Rules.length : Int)), (18, vi i3)], stab [(0, bv3 x9)], 1⟩ ?_ ?_
   ·
    refine step (v := .d (.cptr (some 3) (eapi_Rule x9) 0)) (st_iaddr (xs := a0.Rules) (e := eapi_Rule) hx9 rfl rfl) ?_
    refine q1 (.d (eapi_Rule x9)) ?_
    refine step (v := .ptr 0 0 0) (σ' := (upd (stab []) 0 (some (.var [vl1 [], vl1 [], vl1 []])))) (n' := 1) rfl ?_
    refine step (v := V.undef) (σ' := (upd (upd (stab []) 0 (some (.var [vl1 [], vl1 [], vl1 []]))) 0 (some (bv3 x9)))) (n' := 1) rfl ?_
    exact nR [0]
   refine NWp.opsJ ⟨tab [(16, vl2 a0.Rules), (17, vi (a0.Rules.length : Int)), (18, vi i3), (37, vb ((decide ((x9.When.length : Int) > 8)) || ((decide ((x9.Guard.length : Int) > 6)) || (decide ((x9.Then.length : Int) > 6)))))], stab [], 0⟩ ?_ ?_
   ·
    refine q1 (.ptr 0 0 0) ?_
    refine q1 (vl1 x9.When) ?_
    refine step (v := vi (x9.When.length : Int)) (st_len (xs := x9.When) (e := eapi_Pair) rfl) ?_
    refine q1 (vb (decide ((x9.When.length : Int) > 8))) ?_
    refine q1 (vb (decide ((x9.When.length : Int) > 8))) ?_
    by_cases hg10 : decide ((x9.When.length : Int) > 8) = true
    ·
     refine qX (decide ((x9.When.length : Int) > 8)) (by rw [hg10]; decide) ?_
     refine qX (decide ((x9.When.length : Int) > 8)) (by rw [hg10]; decide) ?_
     refine qX (decide ((x9.When.length : Int) > 8)) (by rw [hg10]; decide) ?_
     refine qX (decide ((x9.When.length : Int) > 8)) (by rw [hg10]; decide) ?_
     refine step (v := vb true) (st_pickT (b := decide ((x9.When.length : Int) > 8)) rfl hg10 rfl) ?_
     refine q1 (vb true) ?_
     refine qX true (by decide) ?_
     refine qX true (by decide) ?_
     refine qX true (by decide) ?_
     refine qX true (by decide) ?_
     refine step (v := vb true) (st_pickT (b := true) rfl rfl rfl) ?_
     exact RunOps.nil' (nm [] ⟨.d _, .d _, .d _, .eq (by first | (simp [hg10]; done) | (simp_all; done) | grind), trivial⟩ trivial)
    ·
     refine qG (decide ((x9.When.length : Int) > 8)) (Bool.eq_false_iff.2 hg10) ?_
     refine q1 (.ptr 0 0 1) ?_
     refine qG (decide ((x9.When.length : Int) > 8)) (Bool.eq_false_iff.2 hg10) ?_
     refine q1 (vl1 x9.Guard) ?_
     refine qG (decide ((x9.When.length : Int) > 8)) (Bool.eq_false_iff.2 hg10) ?_
     refine step (v := vi (x9.Guard.length : Int)) (st_len (xs := x9.Guard) (e := eapi_Pair) rfl) ?_
     refine qG (decide ((x9.When.length : Int) > 8)) (Bool.eq_false_iff.2 hg10) ?_
     refine q1 (vb (decide ((x9.Guard.length : Int) > 6))) ?_
     refine step (v := vb (decide ((x9.Guard.length : Int) > 6))) (st_pickF (b := decide ((x9.When.length : Int) > 8)) rfl hg10 rfl) ?_
     refine q1 (vb (decide ((x9.Guard.length : Int) > 6))) ?_
     by_cases hg11 : decide ((x9.Guard.length : Int) > 6) = true
     ·
      refine qX (decide ((x9.Guard.length : Int) > 6)) (by rw [hg11]; decide) ?_
      refine qX (decide ((x9.Guard.length : Int) > 6)) (by rw [hg11]; decide) ?_
      refine qX (decide ((x9.Guard.length : Int) > 6)) (by rw [hg11]; decide) ?_
      refine qX (decide ((x9.Guard.length : Int) > 6)) (by rw [hg11]; decide) ?_
      refine step (v := vb true) (st_pickT (b := decide ((x9.Guard.length : Int) > 6)) rfl hg11 rfl) ?_
      exact RunOps.nil' (nm [] ⟨.d _, .d _, .d _, .eq (by first | (simp [hg10, hg11]; done) | (simp_all; done) | grind), trivial⟩ trivial)
     ·
      refine qG (decide ((x9.Guard.length : Int) > 6)) (Bool.eq_false_iff.2 hg11) ?_
      refine q1 (.ptr 0 0 2) ?_
      refine qG (decide ((x9.Guard.length : Int) > 6)) (Bool.eq_false_iff.2 hg11) ?_
      refine q1 (vl1 x9.Then) ?_
      refine qG (decide ((x9.Guard.length : Int) > 6)) (Bool.eq_false_iff.2 hg11) ?_
      refine step (v := vi (x9.Then.length : Int)) (st_len (xs := x9.Then) (e := eapi_Pair) rfl) ?_
      refine qG (decide ((x9.Guard.length : Int) > 6)) (Bool.eq_false_iff.2 hg11) ?_
      refine q1 (vb (decide ((x9.Then.length : Int) > 6))) ?_
      refine step (v := vb (decide ((x9.Then.length : Int) > 6))) (st_pickF (b := decide ((x9.Guard.length : Int) > 6)) rfl hg11 rfl) ?_
      exact RunOps.nil' (nm [] ⟨.d _, .d _, .d _, .eq (by first | (simp [hg10, hg11]; done) | (simp_all; done) | grind), trivial⟩ trivial)
   by_cases hc12 : ((decide ((x9.When.length : Int) > 8)) || ((decide ((x9.Guard.length : Int) > 6)) || (decide ((x9.Then.length : Int) > 6)))) = true
   ·
    replace h := iteT hc12 h
    refine NWp.condT (t := ((decide ((x9.When.length : Int) > 8)) || ((decide ((x9.Guard.length : Int) > 6)) || (decide ((x9.Then.length : Int) > 6))))) rfl hc12 ?_
    refine NWp.opsJ ⟨tab [(2, vb false)], stab [], 0⟩ ?_ ?_
    ·
     refine q1 (vb false) ?_
     exact nR []
    obtain ⟨r13, kr13, hr⟩ := mapE (o := some false) (g := Br.ret) h
    subst hr
    have h := kr13
    have hh := Option.some.inj h
    subst hh
    refine NWp.ret ?_
    refine And.intro (fun hn => nomatch hn) ?_
    intro hq
    have hq := hq.symm
    subst hq
    show FQ _ _ _ _
    exact FQ.mk1 (.inr rfl) (res_t (v := vb false) rfl rfl) (RV.d trivial)
   ·
    replace h := iteF hc12 h
    refine NWp.condF (t := ((decide ((x9.When.length : Int) > 8)) || ((decide ((x9.Guard.length : Int) > 6)) || (decide ((x9.Then.length : Int) > 6))))) rfl hc12 ?_
    refine NWp.skip ?_
    have hh := Option.some.inj h
    subst hh
    refine NWp.opsE ⟨tab [(16, vl2 a0.Rules), (17, vi (a0.Rules.length : Int)), (18, vi (i3 + 1))], stab [], 0⟩ ?_ ?_
    ·
     refine step (v := vi (i3 + 1)) (st_inc (inc_ok hinv6 hgo5 hB4) rfl rfl) ?_
     refine q1 (vi (i3 + 1)) ?_
     exact nR []
    exact And.intro rfl rfl
  ·
   rintro i3 ⟨⟩ hinv6 hgo5
   show NWp _ _ _ _ _ ⟨tab [(16, vl2 a0.Rules), (17, vi (a0.Rules.length : Int)), (18, vi i3)], stab [], 0⟩
   have hc7 : ¬ (decide (i3 < (a0.Rules.length : Int)) = true) := fun hq => hgo5 (of_decide_eq_true hq)
   refine NWp.opsJ ⟨tab [(16, vl2 a0.Rules), (17, vi (a0.Rules.length : Int)), (18, vi i3), (19, vb (decide (i3 < (a0.Rules.length : Int))))], stab [], 0⟩ ?_ ?_
   ·
    refine q1 (vb (decide (i3 < (a0.Rules.length : Int)))) ?_
    exact nR []
   refine NWp.seq ?_
   refine NWp.condF (t := decide (i3 < (a0.Rules.length : Int))) rfl hc7 ?_
   refine NWp.norm (s0 := ⟨tab [], stab [], 0⟩) (nr []) ?_
   refine NWp.exit ?_
   exact And.intro rfl rfl
  ·
   intro r' hq
   subst hq
   exact Option.some.inj h
  rintro ⟨⟩ rfl
  refine NWp.opsJ ⟨tab [(2, vb true)], stab [], 0⟩ ?_ ?_
  ·
   refine q1 (vb true) ?_
   exact nR []
  have hh := Option.some.inj h
  subst hh
  refine NWp.ret ?_
  show FQ _ _ _ _
  exact FQ.mk1 (.inr rfl) (res_t (v := vb true) rfl rfl) (RV.d trivial)

theorem c_ref05_Size_s {self : api_Pol → Option Int} (hself : ∀ (a0 : api_Pol) (r : Int), self a0 = some r → PCall Try.prog 42 [uapi_Pol a0] (.int .i64 r)) {a0 : api_Pol} {r : Int} (h : ref05_Size_s self a0 = some r) : PCall Try.prog 42 [uapi_Pol a0] (.int .i64 r) := by
 refine PCall.introN ok42 (show 1 ≤ 21 by decide) ?_
 refine NWp.norm (s0 := ⟨tab [(0, vs0 a0)], stab [], 0⟩) (nr []) ?_
 refine NWp.opsJ ⟨tab [(1, vp0 a0)], stab [], 0⟩ ?_ ?_
 ·
  refine q1 (vp0 a0) ?_
  refine q1 (vi 0) ?_
  exact nR []
 refine NWp.opsJ ⟨tab [(1, vp0 a0), (3, vi 1)], stab [], 0⟩ ?_ ?_
 ·
  refine q1 (vi 1) ?_
  exact nR []
 refine NWp.seq ?_
 refine NWp.opsJ ⟨tab [(1, vp0 a0), (3, vi 1), (4, vi 0)], stab [], 0⟩ ?_ ?_
 ·
  refine q1 (vi 0) ?_
  exact nR []
 obtain ⟨z10, hl, h⟩ := bindE h
 refine NWp.block ?_
 refine loop_forO (cntU (a0.Kids.length : Int)) (fun (i2 : Int) (qq : Int) => ⟨tab [(1, vp0 a0), (3, vi qq), (4, vi i2)], stab [], 0⟩) 0 (fun (qq : Int) => ⟨tab [(3, vi qq)], stab [], 0⟩) Low low_step hl (by unfold Low; omega) ?_ ?_ ?_
 ·
  rintro i2 i1 xr7 hinv5 hgo4 h
  show NWp _ _ _ _ _ ⟨tab [(1, vp0 a0), (3, vi i1), (4, vi i2)], stab [], 0⟩
  have hc6 : decide (i2 < (a0.Kids.length : Int)) = true := decide_eq_true hgo4
  refine NWp.seq ?_
  refine NWp.opsJ ⟨tab [(1, vp0 a0), (3, vi i1), (4, vi i2), (8, vi (a0.Kids.length : Int)), (9, vb (decide (i2 < (a0.Kids.length : Int))))], stab [], 0⟩ ?_ ?_
  ·
   refine q1 (vi i2) ?_
   refine q1 (.d (.cptr (some 4) (uapi_Pol a0) 3)) ?_
   refine q1 (vl0 a0.Kids) ?_
   refine step (v := vi (a0.Kids.length : Int)) (st_len (xs := a0.Kids) (e := eapi_Pol) rfl) ?_
   refine q1 (vb (decide (i2 < (a0.Kids.length : Int)))) ?_
   exact nR []
  refine NWp.rng 8 rfl fun hB3 => ?_
  refine NWp.condT (t := decide (i2 < (a0.Kids.length : Int))) rfl hc6 ?_
  refine NWp.skip ?_
  refine NWp.seq ?_
  refine NWp.block ?_
  obtain ⟨x8, hx8, h⟩ := bindE h
  obtain ⟨r9, hr9, h⟩ := bindE h
  refine NWp.opsE ⟨tab [(1, vp0 a0), (3, vi (IntKind.i64.wrap (i1 + r9))), (4, vi i2)], stab [], 0⟩ ?_ ?_
  ·
   refine q1 (vi i1) ?_
   refine q1 (.d (.cptr (some 4) (uapi_Pol a0) 3)) ?_
   refine q1 (vl0 a0.Kids) ?_
   refine q1 (vi i2) ?_
   refine step (v := vp0 x8) (st_iaddrU (xs := a0.Kids) (e := eapi_Pol) hx8 rfl rfl (eu_api_Pol _)) ?_
   refine q1 (vs0 x8) ?_
   refine stepC (r := .int .i64 r9) (ArgsOk.dt ArgsOk.nil') (hself _ _ hr9) ?_
   refine q1 (vi (IntKind.i64.wrap (i1 + r9))) ?_
   refine q1 (vi (IntKind.i64.wrap (i1 + r9))) ?_
   exact nR []
  have hh := Option.some.inj h
  subst hh
  refine NWp.opsE ⟨tab [(1, vp0 a0), (3, vi (IntKind.i64.wrap (i1 + r9))), (4, vi (i2 + 1))], stab [], 0⟩ ?_ ?_
  ·
   refine q1 (vi i2) ?_
   refine step (v := vi (i2 + 1)) (st_inc (inc_ok hinv5 hgo4 hB3) rfl rfl) ?_
   refine q1 (vi (i2 + 1)) ?_
   exact nR []
  exact And.intro rfl rfl
 ·
  rintro i2 i1 hinv5 hgo4
  show NWp _ _ _ _ _ ⟨tab [(1, vp0 a0), (3, vi i1), (4, vi i2)], stab [], 0⟩
  have hc6 : ¬ (decide (i2 < (a0.Kids.length : Int)) = true) := fun hq => hgo4 (of_decide_eq_true hq)
  refine NWp.seq ?_
  refine NWp.opsJ ⟨tab [(1, vp0 a0), (3, vi i1), (4, vi i2), (9, vb (decide (i2 < (a0.Kids.length : Int))))], stab [], 0⟩ ?_ ?_
  ·
   refine q1 (vi i2) ?_
   refine q1 (.d (.cptr (some 4) (uapi_Pol a0) 3)) ?_
   refine q1 (vl0 a0.Kids) ?_
   refine step (v := vi (a0.Kids.length : Int)) (st_len (xs := a0.Kids) (e := eapi_Pol) rfl) ?_
   refine q1 (vb (decide (i2 < (a0.Kids.length : Int)))) ?_
   exact nR []
  refine NWp.condF (t := decide (i2 < (a0.Kids.length : Int))) rfl hc6 ?_
  refine NWp.norm (s0 := ⟨tab [(3, vi i1)], stab [], 0⟩) (nr []) ?_
  refine NWp.exit ?_
  exact And.intro rfl rfl
 refine NWp.opsJ ⟨tab [(2, vi z10)], stab [], 0⟩ ?_ ?_
 ·
  refine q1 (vi z10) ?_
  refine q1 (vi z10) ?_
  exact nR []
 have hh := Option.some.inj h
 subst hh
 refine NWp.ret ?_
 show FQ _ _ _ _
 exact FQ.mk1 (.inr rfl) (res_t (v := vi z10) rfl rfl) (RV.d trivial)

theorem c_ref05_Size_f : ∀ (k : Nat) (a0 : api_Pol) (r : Int), ref05_Size_f k a0 = some r → PCall Try.prog 42 [uapi_Pol a0] (.int .i64 r)
 | 0, _, _, h => by cases h
 | k + 1, _, _, h => c_ref05_Size_s (c_ref05_Size_f k) h

theorem c_ref05_Size {a0 : api_Pol} {r : Int} (h : ref05_Size a0 = some r) : PCall Try.prog 42 [uapi_Pol a0] (.int .i64 r) := c_ref05_Size_f FUEL _ _ h

theorem c_ref05_Depth_s {self : api_Pol → Option Int} (hself : ∀ (a0 : api_Pol) (r : Int), self a0 = some r → PCall Try.prog 43 [uapi_Pol a0] (.int .i64 r)) {a0 : api_Pol} {r : Int} (h : ref05_Depth_s self a0 = some r) : PCall Try.prog 43 [uapi_Pol a0] (.int .i64 r) := by
 refine PCall.introN ok43 (show 1 ≤ 22 by decide) ?_
 refine NWp.norm (s0 := ⟨tab [(0, vs0 a0)], stab [], 0⟩) (nr []) ?_
 refine NWp.opsJ ⟨tab [(1, vp0 a0)], stab [], 0⟩ ?_ ?_
 ·
  refine q1 (vp0 a0) ?_
  refine q1 (vi 0) ?_
  exact nR []
 refine NWp.opsJ ⟨tab [(1, vp0 a0), (3, vi 0)], stab [], 0⟩ ?_ ?_
 ·
  refine q1 (vi 0) ?_
  exact nR []
 refine NWp.seq ?_
 refine NWp.opsJ ⟨tab [(1, vp0 a0), (3, vi 0), (4, vi 0)], stab [], 0⟩ ?_ ?_
 ·
  refine q1 (vi 0) ?_
  exact nR []
 obtain ⟨z10, hl, h⟩ := bindE h
 refine NWp.block ?_
 refine loop_forO (cntU (a0.Kids.length : Int)) (fun (i2 : Int) (qq : Int) => ⟨tab [(1, vp0 a0), (3, vi qq), (4, vi i2)], stab [], 0⟩) 0 (fun (qq : Int) => ⟨tab [(3, vi qq)], stab [], 0⟩) Low low_step hl (by unfold Low; omega) ?_ ?_ ?_
 ·
  rintro i2 i1 xr7 hinv5 hgo4 h
  show NWp _ _ _ _ _ ⟨tab [(1, vp0 a0), (3, vi i1), (4, vi i2)], stab [], 0⟩
  have hc6 : decide (i2 < (a0.Kids.length : Int)) = true := decide_eq_true hgo4
  refine NWp.seq ?_
  refine NWp.opsJ ⟨tab [(1, vp0 a0), (3, vi i1), (4, vi i2), (8, vi (a0.Kids.length : Int)), (9, vb (decide (i2 < (a0.Kids.length : Int))))], stab [], 0⟩ ?_ ?_
  ·
   refine q1 (vi i2) ?_
   refine q1 (.d (.cptr (some 4) (uapi_Pol a0) 3)) ?_
   refine q1 (vl0 a0.Kids) ?_
   refine step (v := vi (a0.Kids.length : Int)) (st_len (xs := a0.Kids) (e := eapi_Pol) rfl) ?_
   refine q1 (vb (decide (i2 < (a0.Kids.length : Int)))) ?_
   exact nR []
  refine NWp.rng 8 rfl fun hB3 => ?_
  refine NWp.condT (t := decide (i2 < (a0.Kids.length : Int))) rfl hc6 ?_
  refine NWp.skip ?_
  refine NWp.seq ?_
  refine NWp.block ?_
  obtain ⟨x8, hx8, h⟩ := bindE h
  obtain ⟨r9, hr9, h⟩ := bindE h
  refine NWp.opsE ⟨tab [(1, vp0 a0), (3, vi (imax i1 r9)), (4, vi i2)], stab [], 0⟩ ?_ ?_
  ·
   refine q1 (vi i1) ?_
   refine q1 (.d (.cptr (some 4) (uapi_Pol a0) 3)) ?_
   refine q1 (vl0 a0.Kids) ?_
   refine q1 (vi i2) ?_
   refine step (v := vp0 x8) (st_iaddrU (xs := a0.Kids) (e := eapi_Pol) hx8 rfl rfl (eu_api_Pol _)) ?_
   refine q1 (vs0 x8) ?_
   refine stepC (r := .int .i64 r9) (ArgsOk.dt ArgsOk.nil') (hself _ _ hr9) ?_
   refine q1 (vi (imax i1 r9)) ?_
   refine q1 (vi (imax i1 r9)) ?_
   exact nR []
  have hh := Option.some.inj h
  subst hh
  refine NWp.opsE ⟨tab [(1, vp0 a0), (3, vi (imax i1 r9)), (4, vi (i2 + 1))], stab [], 0⟩ ?_ ?_
  ·
   refine q1 (vi i2) ?_
   refine step (v := vi (i2 + 1)) (st_inc (inc_ok hinv5 hgo4 hB3) rfl rfl) ?_
   refine q1 (vi (i2 + 1)) ?_
   exact nR []
  exact And.intro rfl rfl
 ·
  rintro i2 i1 hinv5 hgo4
  show NWp _ _ _ _ _ ⟨tab [(1, vp0 a0), (3, vi i1), (4, vi i2)], stab [], 0⟩
  have hc6 : ¬ (decide (i2 < (a0.Kids.length : Int)) = true) := fun hq => hgo4 (of_decide_eq_true hq)
  refine NWp.seq ?_
  refine NWp.opsJ ⟨tab [(1, vp0 a0), (3, vi i1), (4, vi i2), (9, vb (decide (i2 < (a0.Kids.length : Int))))], stab [], 0⟩ ?_ ?_
  ·
   refine q1 (vi i2) ?_
   refine q1 (.d (.cptr (some 4) (uapi_Pol a0) 3)) ?_
   refine q1 (vl0 a0.Kids) ?_
   refine step (v := vi (a0.Kids.length : Int)) (st_len (xs := a0.Kids) (e := eapi_Pol) rfl) ?_
   refine q1 (vb (decide (i2 < (a0.Kids.length : Int)))) ?_
   exact nR []
  refine NWp.condF (t := decide (i2 < (a0.Kids.length : Int))) rfl hc6 ?_
  refine NWp.norm (s0 := ⟨tab [(3, vi i1)], stab [], 0⟩) (nr []) ?_
  refine NWp.exit ?_
  exact And.intro rfl rfl
 refine NWp.opsJ ⟨tab [(2, vi (IntKind.i64.wrap (z10 + 1)))], stab [], 0⟩ ?_ ?_
 ·
  refine q1 (vi z10) ?_
  refine q1 (vi (IntKind.i64.wrap (z10 + 1))) ?_
  refine q1 (vi (IntKind.i64.wrap (z10 + 1))) ?_
  exact nR []
 have hh := Option.some.inj h
 subst hh
 refine NWp.ret ?_
 show FQ _ _ _ _
 exact FQ.mk1 (.inr rfl) (res_t (v := vi (IntKind.i64.wrap (z10 + 1))) rfl rfl) (RV.d trivial)

theorem c_ref05_Depth_f : ∀ (k : Nat) (a0 : api_Pol) (r : Int), ref05_Depth_f k a0 = some r → PCall Try.prog 43 [uapi_Pol a0] (.int .i64 r)
 | 0, _, _, h => by cases h
 | k + 1, _, _, h => c_ref05_Depth_s (c_ref05_Depth_f k) h

theorem c_ref05_Depth {a0 : api_Pol} {r : Int} (h : ref05_Depth a0 = some r) : PCall Try.prog 43 [uapi_Pol a0] (.int .i64 r) := c_ref05_Depth_f FUEL _ _ h

theorem c_ref05_Predicate_s {self : api_Pol → Option Bool} (hself : ∀ (a0 : api_Pol) (r : Bool), self a0 = some r → PCall Try.prog 45 [uapi_Pol a0] (.bool r)) {a0 : api_Pol} {r : Bool} (h : ref05_Predicate_s self a0 = some r) : PCall Try.prog 45 [uapi_Pol a0] (.bool r) := by
 refine PCall.introN ok45 (show 1 ≤ 39 by decide) ?_
 refine NWp.norm (s0 := ⟨tab [(0, vs0 a0)], stab [], 0⟩) (nr []) ?_
 refine NWp.opsJ ⟨tab [(1, vp0 a0)], stab [], 0⟩ ?_ ?_
 ·
  refine q1 (vp0 a0) ?_
  refine q1 (vb false) ?_
  exact nR []
 refine NWp.seq ?_
 refine NWp.opsJ ⟨tab [(1, vp0 a0), (16, vb ((a0.Op == 5) || ((decide (a0.Op < 0)) || (decide (a0.Op > 7)))))], stab [], 0⟩ ?_ ?_
 ·
  refine q1 (vp0 a0) ?_
  refine q1 (vi a0.Op) ?_
  refine q1 (vb (a0.Op == 5)) ?_
  refine q1 (vb (a0.Op == 5)) ?_
  by_cases hg1 : (a0.Op == 5) = true
  ·
   refine qX (a0.Op == 5) (by rw [hg1]; decide) ?_
   refine qX (a0.Op == 5) (by rw [hg1]; decide) ?_
   refine qX (a0.Op == 5) (by rw [hg1]; decide) ?_
   refine step (v := vb true) (st_pickT (b := (a0.Op == 5)) rfl hg1 rfl) ?_
   refine q1 (vb true) ?_
   refine qX true (by decide) ?_
   refine qX true (by decide) ?_
   refine qX true (by decide) ?_
   refine step (v := vb true) (st_pickT (b := true) rfl rfl rfl) ?_
   exact RunOps.nil' (nm [] ⟨.d _, .eq (by first | (simp [hg1]; done) | (simp_all; done) | grind), trivial⟩ trivial)
  ·
   refine qG (a0.Op == 5) (Bool.eq_false_iff.2 hg1) ?_
   refine q1 (vp0 a0) ?_
   refine qG (a0.Op == 5) (Bool.eq_false_iff.2 hg1) ?_
   refine q1 (vi a0.Op) ?_
   refine qG (a0.Op == 5) (Bool.eq_false_iff.2 hg1) ?_
   refine q1 (vb (decide (a0.Op < 0))) ?_
   refine step (v := vb (decide (a0.Op < 0))) (st_pickF (b := (a0.Op == 5)) rfl hg1 rfl) ?_
   refine q1 (vb (decide (a0.Op < 0))) ?_
   by_cases hg2 : decide (a0.Op < 0) = true
   ·
    refine qX (decide (a0.Op < 0)) (by rw [hg2]; decide) ?_
    refine qX (decide (a0.Op < 0)) (by rw [hg2]; decide) ?_
    refine qX (decide (a0.Op < 0)) (by rw [hg2]; decide) ?_
    refine step (v := vb true) (st_pickT (b := decide (a0.Op < 0)) rfl hg2 rfl) ?_
    exact RunOps.nil' (nm [] ⟨.d _, .eq (by first | (simp [hg1, hg2]; done) | (simp_all; done) | grind), trivial⟩ trivial)
   ·
    refine qG (decide (a0.Op < 0)) (Bool.eq_false_iff.2 hg2) ?_
    refine q1 (vp0 a0) ?_
    refine qG (decide (a0.Op < 0)) (Bool.eq_false_iff.2 hg2) ?_
    refine q1 (vi a0.Op) ?_
    refine qG (decide (a0.Op < 0)) (Bool.eq_false_iff.2 hg2) ?_
    refine q1 (vb (decide (a0.Op > 7))) ?_
    refine step (v := vb (decide (a0.Op > 7))) (st_pickF (b := decide (a0.Op < 0)) rfl hg2 rfl) ?_
    exact RunOps.nil' (nm [] ⟨.d _, .eq (by first | (simp [hg1, hg2]; done) | (simp_all; done) | grind), trivial⟩ trivial)
 by_cases hc3 : ((a0.Op == 5) || ((decide (a0.Op < 0)) || (decide (a0.Op > 7)))) = true
 ·
  replace h := iteT hc3 h
  refine NWp.condT (t := ((a0.Op == 5) || ((decide (a0.Op < 0)) || (decide (a0.Op > 7))))) rfl hc3 ?_
  refine NWp.opsJ ⟨tab [(2, vb false)], stab [], 0⟩ ?_ ?_
  ·
   refine q1 (vb false) ?_
   exact nR []
  have hh := Option.some.inj h
  subst hh
  refine NWp.ret ?_
  show FQ _ _ _ _
  exact FQ.mk1 (.inr rfl) (res_t (v := vb false) rfl rfl) (RV.d trivial)
 ·
  replace h := iteF hc3 h
  refine NWp.condF (t := ((a0.Op == 5) || ((decide (a0.Op < 0)) || (decide (a0.Op > 7))))) rfl hc3 ?_
  refine NWp.skip ?_
  obtain ⟨q16, hv, h⟩ := bindE h
  refine NWp.seqS (fun (qq : Unit) => ⟨tab [], stab [], 0⟩) (xv := q16) (r := r) ?_ ?_ ?_
  ·
   replace h := hv
   refine NWp.opsJ ⟨tab [(1, vp0 a0), (24, vb ((a0.Op == 6) || (a0.Op == 7)))], stab [], 0⟩ ?_ ?_
   ·
    refine q1 (vp0 a0) ?_
    refine q1 (vi a0.Op) ?_
    refine q1 (vb (a0.Op == 6)) ?_
    refine q1 (vb (a0.Op == 6)) ?_
    by_cases hg4 : (a0.Op == 6) = true
    ·
     refine qX (a0.Op == 6) (by rw [hg4]; decide) ?_
     refine qX (a0.Op == 6) (by rw [hg4]; decide) ?_
     refine qX (a0.Op == 6) (by rw [hg4]; decide) ?_
     refine step (v := vb true) (st_pickT (b := (a0.Op == 6)) rfl hg4 rfl) ?_
     exact RunOps.nil' (nm [] ⟨.d _, .eq (by first | (simp [hg4]; done) | (simp_all; done) | grind), trivial⟩ trivial)
    ·
     refine qG (a0.Op == 6) (Bool.eq_false_iff.2 hg4) ?_
     refine q1 (vp0 a0) ?_
     refine qG (a0.Op == 6) (Bool.eq_false_iff.2 hg4) ?_
     refine q1 (vi a0.Op) ?_
     refine qG (a0.Op == 6) (Bool.eq_false_iff.2 hg4) ?_
     refine q1 (vb (a0.Op == 7)) ?_
     refine step (v := vb (a0.Op == 7)) (st_pickF (b := (a0.Op == 6)) rfl hg4 rfl) ?_
     exact RunOps.nil' (nm [] ⟨.d _, .eq (by first | (simp [hg4]; done) | (simp_all; done) | grind), trivial⟩ trivial)
   by_cases hc5 : ((a0.Op == 6) || (a0.Op == 7)) = true
   ·
    replace h := iteT hc5 h
    refine NWp.condT (t := ((a0.Op == 6) || (a0.Op == 7))) rfl hc5 ?_
    refine NWp.opsJ ⟨tab [(1, vp0 a0), (3, vi 0)], stab [], 0⟩ ?_ ?_
    ·
     refine q1 (vi 0) ?_
     exact nR []
    obtain ⟨q15, hl, h⟩ := bindE h
    refine NWp.block ?_
    refine loop_forR (cntU (a0.Kids.length : Int)) (fun (i6 : Int) (qq : Unit) => ⟨tab [(1, vp0 a0), (3, vi i6)], stab [], 0⟩) 0 (fun (qq : Unit) => ⟨tab [], stab [], 0⟩) Low low_step (r := q16) hl (by unfold Low; omega) ?_ ?_ ?_ ?_
    ·
     rintro i6 ⟨⟩ xr11 hinv9 hgo8 h
     show NWp _ _ _ _ _ ⟨tab [(1, vp0 a0), (3, vi i6)], stab [], 0⟩
     have hc10 : decide (i6 < (a0.Kids.length : Int)) = true := decide_eq_true hgo8
     refine NWp.seq ?_
     refine NWp.opsJ ⟨tab [(1, vp0 a0), (3, vi i6), (28, vi (a0.Kids.length : Int)), (29, vb (decide (i6 < (a0.Kids.length : Int))))], stab [], 0⟩ ?_ ?_
     ·
      refine q1 (vi i6) ?_
      refine q1 (.d (.cptr (some 4) (uapi_Pol a0) 3)) ?_
      refine q1 (vl0 a0.Kids) ?_
      refine step (v := vi (a0.Kids.length : Int)) (st_len (xs := a0.Kids) (e := eapi_Pol) rfl) ?_
      refine q1 (vb (decide (i6 < (a0.Kids.length : Int)))) ?_
      exact nR []
     refine NWp.rng 28 rfl fun hB7 => ?_
     refine NWp.condT (t := decide (i6 < (a0.Kids.length : Int))) rfl hc10 ?_
     refine NWp.skip ?_
     refine NWp.seq ?_
     refine NWp.block ?_
     obtain ⟨x12, hx12, h⟩ := bindE h
     obtain ⟨r13, hr13, h⟩ := bindE h
     refine NWp.opsJ ⟨tab [(1, vp0 a0), (3, vi i6), (38, vb (!r13))], stab [], 0⟩ ?_ ?_
     ·
      refine q1 (.d (.cptr (some 4) (uapi_Pol a0) 3)) ?_
      refine q1 (vl0 a0.Kids) ?_
      refine q1 (vi i6) ?_
      refine step (v := vp0 x12) (st_iaddrU (xs := a0.Kids) (e := eapi_Pol) hx12 rfl rfl (eu_api_Pol _)) ?_
      refine q1 (vs0 x12) ?_
      refine stepC (r := .bool r13) (ArgsOk.dt ArgsOk.nil') (hself _ _ hr13) ?_
      refine q1 (vb (!r13)) ?_
      exact nR []
     by_cases hc14 : (!r13) = true
     ·
      replace h := iteT hc14 h
      refine NWp.condT (t := (!r13)) rfl hc14 ?_
      refine NWp.opsJ ⟨tab [(2, vb false)], stab [], 0⟩ ?_ ?_
      ·
       refine q1 (vb false) ?_
       exact nR []
      obtain ⟨r15, kr15, hr⟩ := mapE (o := some (Sum.inr false)) (g := Br.ret) h
      subst hr
      have h := kr15
      obtain ⟨r16, kr16, hr⟩ := mapE (o := some false) (g := Sum.inr) h
      subst hr
      have h := kr16
      have hh := Option.some.inj h
      subst hh
      refine NWp.ret ?_
      refine And.intro (fun hn => nomatch hn) ?_
      intro hq
      have hq := hq.symm
      subst hq
      refine And.intro (fun hn => nomatch hn) ?_
      intro hq
      have hq := hq.symm
      subst hq
      show FQ _ _ _ _
      exact FQ.mk1 (.inr rfl) (res_t (v := vb false) rfl rfl) (RV.d trivial)
     ·
      replace h := iteF hc14 h
      refine NWp.condF (t := (!r13)) rfl hc14 ?_
      refine NWp.skip ?_
      have hh := Option.some.inj h
      subst hh
      refine NWp.opsE ⟨tab [(1, vp0 a0), (3, vi (i6 + 1))], stab [], 0⟩ ?_ ?_
      ·
       refine q1 (vi i6) ?_
       refine step (v := vi (i6 + 1)) (st_inc (inc_ok hinv9 hgo8 hB7) rfl rfl) ?_
       refine q1 (vi (i6 + 1)) ?_
       exact nR []
      exact And.intro rfl rfl
    ·
     rintro i6 ⟨⟩ hinv9 hgo8
     show NWp _ _ _ _ _ ⟨tab [(1, vp0 a0), (3, vi i6)], stab [], 0⟩
     have hc10 : ¬ (decide (i6 < (a0.Kids.length : Int)) = true) := fun hq => hgo8 (of_decide_eq_true hq)
     refine NWp.seq ?_
     refine NWp.opsJ ⟨tab [(1, vp0 a0), (3, vi i6), (29, vb (decide (i6 < (a0.Kids.length : Int))))], stab [], 0⟩ ?_ ?_
     ·
      refine q1 (vi i6) ?_
      refine q1 (.d (.cptr (some 4) (uapi_Pol a0) 3)) ?_
      refine q1 (vl0 a0.Kids) ?_
      refine step (v := vi (a0.Kids.length : Int)) (st_len (xs := a0.Kids) (e := eapi_Pol) rfl) ?_
      refine q1 (vb (decide (i6 < (a0.Kids.length : Int)))) ?_
      exact nR []
     refine NWp.condF (t := decide (i6 < (a0.Kids.length : Int))) rfl hc10 ?_
     refine NWp.norm (s0 := ⟨tab [], stab [], 0⟩) (nr []) ?_
     refine NWp.exit ?_
     exact And.intro rfl rfl
    ·
     intro r' hq
     subst hq
     exact Option.some.inj h
    rintro ⟨⟩ rfl
    have hh := Option.some.inj h
    subst hh
    exact And.intro rfl rfl
   ·
    replace h := iteF hc5 h
    refine NWp.condF (t := ((a0.Op == 6) || (a0.Op == 7))) rfl hc5 ?_
    have hh := Option.some.inj h
    subst hh
    refine NWp.norm (s0 := ⟨tab [], stab [], 0⟩) (nr []) ?_
    refine NWp.skip ?_
    exact And.intro rfl rfl
  ·
   intro r' hq
   subst hq
   exact Option.some.inj h
  rintro ⟨⟩ rfl
  show NWp _ _ _ _ _ ⟨tab [], stab [], 0⟩
  refine NWp.opsJ ⟨tab [(2, vb true)], stab [], 0⟩ ?_ ?_
  ·
   refine q1 (vb true) ?_
   exact nR []
  have hh := Option.some.inj h
  subst hh
  refine NWp.ret ?_
  show FQ _ _ _ _
  exact FQ.mk1 (.inr rfl) (res_t (v := vb true) rfl rfl) (RV.d trivial)

theorem c_ref05_Predicate_f : ∀ (k : Nat) (a0 : api_Pol) (r : Bool), ref05_Predicate_f k a0 = some r → PCall Try.prog 45 [uapi_Pol a0] (.bool r)
 | 0, _, _, h => by cases h
 | k + 1, _, _, h => c_ref05_Predicate_s (c_ref05_Predicate_f k) h

theorem c_ref05_Predicate {a0 : api_Pol} {r : Bool} (h : ref05_Predicate a0 = some r) : PCall Try.prog 45 [uapi_Pol a0] (.bool r) := c_ref05_Predicate_f FUEL _ _ h

theorem c_ref05_formed_s {self : api_Pol → Int → Option Bool} (hself : ∀ (a0 : api_Pol) (a1 : Int) (r : Bool), self a0 a1 = some r → PCall Try.prog 79 [uapi_Pol a0, .int .i64 a1] (.bool r)) {a0 : api_Pol} {a1 : Int} {r : Bool} (h : ref05_formed_s self a0 a1 = some r) : PCall Try.prog 79 [uapi_Pol a0, .int .i64 a1] (.bool r) := by
 refine PCall.introN ok79 (show 2 ≤ 127 by decide) ?_
 refine NWp.norm (s0 := ⟨tab [(0, vs0 a0), (1, vi a1)], stab [], 0⟩) (nr []) ?_
 refine NWp.opsJ ⟨tab [(1, vi a1), (2, vp0 a0)], stab [], 0⟩ ?_ ?_
 ·
  refine q1 (vp0 a0) ?_
  refine q1 (vb false) ?_
  exact nR []
 refine NWp.opsJ ⟨tab [(1, vi a1), (2, vp0 a0), (5, vi (a0.Kids.length : Int))], stab [], 0⟩ ?_ ?_
 ·
  refine q1 (.d (.cptr (some 4) (uapi_Pol a0) 3)) ?_
  refine q1 (vl0 a0.Kids) ?_
  refine step (v := vi (a0.Kids.length : Int)) (st_len (xs := a0.Kids) (e := eapi_Pol) rfl) ?_
  refine q1 (vi (a0.Kids.length : Int)) ?_
  exact nR []
 refine NWp.seq ?_
 refine NWp.opsJ ⟨tab [(1, vi a1), (2, vp0 a0), (5, vi (a0.Kids.length : Int)), (11, vi a0.Op)], stab [], 0⟩ ?_ ?_
 ·
  refine q1 (vp0 a0) ?_
  refine q1 (vi a0.Op) ?_
  exact nR []
 refine NWp.block ?_
 obtain ⟨y2, hv, h⟩ := bindE h
 refine NWp.seqN ⟨tab [(1, vi a1), (2, vp0 a0), (5, vi (a0.Kids.length : Int)), (11, vi a0.Op), (12, vb y2)], stab [], 0⟩ ?_ ?_
 ·
  replace h := hv
  refine NWp.opsJ ⟨tab [(1, vi a1), (2, vp0 a0), (5, vi (a0.Kids.length : Int)), (11, vi a0.Op), (12, vb (a0.Op == 0))], stab [], 0⟩ ?_ ?_
  ·
   refine q1 (vb (a0.Op == 0)) ?_
   refine q1 (vb (a0.Op == 0)) ?_
   exact nR []
  by_cases hc1 : (a0.Op == 0) = true
  ·
   replace h := iteT hc1 h
   refine NWp.condT (t := (a0.Op == 0)) rfl hc1 ?_
   have hh := Option.some.inj h
   subst hh
   refine NWp.norm (s0 := ⟨tab [(1, vi a1), (2, vp0 a0), (5, vi (a0.Kids.length : Int)), (11, vi a0.Op), (12, vb (a0.Op == 0))], stab [], 0⟩) (nr []) ?_
   refine NWp.skip ?_
   exact And.intro rfl rfl
  ·
   replace h := iteF hc1 h
   refine NWp.condF (t := (a0.Op == 0)) rfl hc1 ?_
   have hh := Option.some.inj h
   subst hh
   refine NWp.opsE ⟨tab [(1, vi a1), (2, vp0 a0), (5, vi (a0.Kids.length : Int)), (11, vi a0.Op), (12, vb (a0.Op == 1))], stab [], 0⟩ ?_ ?_
   ·
    refine q1 (vb (a0.Op == 1)) ?_
    refine q1 (vb (a0.Op == 1)) ?_
    exact nR []
   exact And.intro rfl rfl
 by_cases hc4 : y2 = true
 ·
  replace h := iteT hc4 h
  refine NWp.condT (t := y2) rfl hc4 ?_
  refine NWp.opsJ ⟨tab [(4, vb (((a0.Kids.length : Int) == 0) && ((a0.F == 0) && (a0.N == 0))))], stab [], 0⟩ ?_ ?_
  ·
   refine q1 (vi (a0.Kids.length : Int)) ?_
   refine q1 (vb ((a0.Kids.length : Int) == 0)) ?_
   refine q1 (vb ((a0.Kids.length : Int) == 0)) ?_
   by_cases hg5 : ((a0.Kids.length : Int) == 0) = true
   ·
    refine qG ((a0.Kids.length : Int) == 0) hg5 ?_
    refine q1 (.d (.cptr (some 4) (uapi_Pol a0) 1)) ?_
    refine qG ((a0.Kids.length : Int) == 0) hg5 ?_
    refine q1 (vi a0.F) ?_
    refine qG ((a0.Kids.length : Int) == 0) hg5 ?_
    refine q1 (vb (a0.F == 0)) ?_
    refine step (v := vb (a0.F == 0)) (st_pickT (b := ((a0.Kids.length : Int) == 0)) rfl hg5 rfl) ?_
    refine q1 (vb (a0.F == 0)) ?_
    by_cases hg6 : (a0.F == 0) = true
    ·
     refine qG (a0.F == 0) hg6 ?_
     refine q1 (.d (.cptr (some 4) (uapi_Pol a0) 2)) ?_
     refine qG (a0.F == 0) hg6 ?_
     refine q1 (vh a0.N) ?_
     refine qG (a0.F == 0) hg6 ?_
     refine q1 (vb (a0.N == 0)) ?_
     refine step (v := vb (a0.N == 0)) (st_pickT (b := (a0.F == 0)) rfl hg6 rfl) ?_
     refine q1 (vb (a0.N == 0)) ?_
     exact RunOps.nil' (nm [] ⟨.eq (by first | (simp [hg5, hg6]; done) | (simp_all; done) | grind), trivial⟩ trivial)
    ·
     refine qX (a0.F == 0) hg6 ?_
     refine qX (a0.F == 0) hg6 ?_
     refine qX (a0.F == 0) hg6 ?_
     refine step (v := vb false) (st_pickF (b := (a0.F == 0)) rfl hg6 rfl) ?_
     refine q1 (vb false) ?_
     exact RunOps.nil' (nm [] ⟨.eq (by first | (simp [hg5, hg6]; done) | (simp_all; done) | grind), trivial⟩ trivial)
   ·
    refine qX ((a0.Kids.length : Int) == 0) hg5 ?_
    refine qX ((a0.Kids.length : Int) == 0) hg5 ?_
    refine qX ((a0.Kids.length : Int) == 0) hg5 ?_
    refine step (v := vb false) (st_pickF (b := ((a0.Kids.length : Int) == 0)) rfl hg5 rfl) ?_
    refine q1 (vb false) ?_
    refine qX false (by decide) ?_
    refine qX false (by decide) ?_
    refine qX false (by decide) ?_
    refine step (v := vb false) (st_pickF (b := false) rfl (by decide) rfl) ?_
    refine q1 (vb false) ?_
    exact RunOps.nil' (nm [] ⟨.eq (by first | (simp [hg5]; done) | (simp_all; done) | grind), trivial⟩ trivial)
  have hh := Option.some.inj h
  subst hh
  refine NWp.ret ?_
  show FQ _ _ _ _
  exact FQ.mk1 (.inr rfl) (res_t (v := vb (((a0.Kids.length : Int) == 0) && ((a0.F == 0) && (a0.N == 0)))) rfl rfl) (RV.d trivial)
 ·
  replace h := iteF hc4 h
  refine NWp.condF (t := y2) rfl hc4 ?_
  refine NWp.opsJ ⟨tab [(1, vi a1), (2, vp0 a0), (5, vi (a0.Kids.length : Int)), (11, vi a0.Op), (27, vb (a0.Op == 2))], stab [], 0⟩ ?_ ?_
  ·
   refine q1 (vb (a0.Op == 2)) ?_
   refine q1 (vb (a0.Op == 2)) ?_
   exact nR []
  by_cases hc7 : (a0.Op == 2) = true
  ·
   replace h := iteT hc7 h
   refine NWp.condT (t := (a0.Op == 2)) rfl hc7 ?_
   refine NWp.opsJ ⟨tab [(4, vb (((a0.Kids.length : Int) == 0) && ((decide (a0.F ≥ 0)) && (decide (a0.F < 8)))))], stab [], 0⟩ ?_ ?_
   ·
    refine q1 (vi (a0.Kids.length : Int)) ?_
    refine q1 (vb ((a0.Kids.length : Int) == 0)) ?_
    refine q1 (vb ((a0.Kids.length : Int) == 0)) ?_
    by_cases hg8 : ((a0.Kids.length : Int) == 0) = true
    ·
     refine qG ((a0.Kids.length : Int) == 0) hg8 ?_
     refine q1 (.d (.cptr (some 4) (uapi_Pol a0) 1)) ?_
     refine qG ((a0.Kids.length : Int) == 0) hg8 ?_
     refine q1 (vi a0.F) ?_
     refine qG ((a0.Kids.length : Int) == 0) hg8 ?_
     refine q1 (vb (decide (a0.F ≥ 0))) ?_
     refine step (v := vb (decide (a0.F ≥ 0))) (st_pickT (b := ((a0.Kids.length : Int) == 0)) rfl hg8 rfl) ?_
     refine q1 (vb (decide (a0.F ≥ 0))) ?_
     by_cases hg9 : decide (a0.F ≥ 0) = true
     ·
      refine qG (decide (a0.F ≥ 0)) hg9 ?_
      refine q1 (.d (.cptr (some 4) (uapi_Pol a0) 1)) ?_
      refine qG (decide (a0.F ≥ 0)) hg9 ?_
      refine q1 (vi a0.F) ?_
      refine qG (decide (a0.F ≥ 0)) hg9 ?_
      refine q1 (vb (decide (a0.F < 8))) ?_
      refine step (v := vb (decide (a0.F < 8))) (st_pickT (b := decide (a0.F ≥ 0)) rfl hg9 rfl) ?_
      refine q1 (vb (decide (a0.F < 8))) ?_
      exact RunOps.nil' (nm [] ⟨.eq (by first | (simp [hg8, hg9]; done) | (simp_all; done) | grind), trivial⟩ trivial)
     ·
      refine qX (decide (a0.F ≥ 0)) hg9 ?_
      refine qX (decide (a0.F ≥ 0)) hg9 ?_
      refine qX (decide (a0.F ≥ 0)) hg9 ?_
      refine step (v := vb false) (st_pickF (b := decide (a0.F ≥ 0)) rfl hg9 rfl) ?_
      refine q1 (vb false) ?_
      exact RunOps.nil' (nm [] ⟨.eq (by first | (simp [hg8, hg9]; done) | (simp_all; done) | grind), trivial⟩ trivial)
    ·
     refine qX ((a0.Kids.length : Int) == 0) hg8 ?_
     refine qX ((a0.Kids.length : Int) == 0) hg8 ?_
     refine qX ((a0.Kids.length : Int) == 0) hg8 ?_
     refine step (v := vb false) (st_pickF (b := ((a0.Kids.length : Int) == 0)) rfl hg8 rfl) ?_
     refine q1 (vb false) ?_
     refine qX false (by decide) ?_
     refine qX false (by decide) ?_
     refine qX false (by decide) ?_
     refine step (v := vb false) (st_pickF (b := false) rfl (by decide) rfl) ?_
     refine q1 (vb false) ?_
     exact RunOps.nil' (nm [] ⟨.eq (by first | (simp [hg8]; done) | (simp_all; done) | grind), trivial⟩ trivial)
   have hh := Option.some.inj h
   subst hh
   refine NWp.ret ?_
   show FQ _ _ _ _
   exact FQ.mk1 (.inr rfl) (res_t (v := vb (((a0.Kids.length : Int) == 0) && ((decide (a0.F ≥ 0)) && (decide (a0.F < 8))))) rfl rfl) (RV.d trivial)
  ·
   replace h := iteF hc7 h
   refine NWp.condF (t := (a0.Op == 2)) rfl hc7 ?_
   refine NWp.opsJ ⟨tab [(1, vi a1), (2, vp0 a0), (5, vi (a0.Kids.length : Int)), (11, vi a0.Op), (41, vb (a0.Op == 3))], stab [], 0⟩ ?_ ?_
   ·
    refine q1 (vb (a0.Op == 3)) ?_
    refine q1 (vb (a0.Op == 3)) ?_
    exact nR []
   by_cases hc10 : (a0.Op == 3) = true
   ·
    replace h := iteT hc10 h
    refine NWp.condT (t := (a0.Op == 3)) rfl hc10 ?_
    refine NWp.opsJ ⟨tab [(4, vb (((a0.Kids.length : Int) == 0) && ((decide (a0.F ≥ 0)) && (decide (a0.F < a1)))))], stab [], 0⟩ ?_ ?_
    ·
     refine q1 (vi (a0.Kids.length : Int)) ?_
     refine q1 (vb ((a0.Kids.length : Int) == 0)) ?_
     refine q1 (vb ((a0.Kids.length : Int) == 0)) ?_
     by_cases hg11 : ((a0.Kids.length : Int) == 0) = true
     ·
      refine qG ((a0.Kids.length : Int) == 0) hg11 ?_
      refine q1 (.d (.cptr (some 4) (uapi_Pol a0) 1)) ?_
      refine qG ((a0.Kids.length : Int) == 0) hg11 ?_
      refine q1 (vi a0.F) ?_
      refine qG ((a0.Kids.length : Int) == 0) hg11 ?_
      refine q1 (vb (decide (a0.F ≥ 0))) ?_
      refine step (v := vb (decide (a0.F ≥ 0))) (st_pickT (b := ((a0.Kids.length : Int) == 0)) rfl hg11 rfl) ?_
      refine q1 (vb (decide (a0.F ≥ 0))) ?_
      by_cases hg12 : decide (a0.F ≥ 0) = true
      ·
       refine qG (decide (a0.F ≥ 0)) hg12 ?_
       refine q1 (.d (.cptr (some 4) (uapi_Pol a0) 1)) ?_
       refine qG (decide (a0.F ≥ 0)) hg12 ?_
       refine q1 (vi a0.F) ?_
       refine qG (decide (a0.F ≥ 0)) hg12 ?_
       refine q1 (vi a1) ?_
       refine qG (decide (a0.F ≥ 0)) hg12 ?_
       refine q1 (vb (decide (a0.F < a1))) ?_
       refine step (v := vb (decide (a0.F < a1))) (st_pickT (b := decide (a0.F ≥ 0)) rfl hg12 rfl) ?_
       refine q1 (vb (decide (a0.F < a1))) ?_
       exact RunOps.nil' (nm [] ⟨.eq (by first | (simp [hg11, hg12]; done) | (simp_all; done) | grind), trivial⟩ trivial)
      ·
       refine qX (decide (a0.F ≥ 0)) hg12 ?_
       refine qX (decide (a0.F ≥ 0)) hg12 ?_
       refine qX (decide (a0.F ≥ 0)) hg12 ?_
       refine qX (decide (a0.F ≥ 0)) hg12 ?_
       refine step (v := vb false) (st_pickF (b := decide (a0.F ≥ 0)) rfl hg12 rfl) ?_
       refine q1 (vb false) ?_
       exact RunOps.nil' (nm [] ⟨.eq (by first | (simp [hg11, hg12]; done) | (simp_all; done) | grind), trivial⟩ trivial)
     ·
      refine qX ((a0.Kids.length : Int) == 0) hg11 ?_
      refine qX ((a0.Kids.length : Int) == 0) hg11 ?_
      refine qX ((a0.Kids.length : Int) == 0) hg11 ?_
      refine step (v := vb false) (st_pickF (b := ((a0.Kids.length : Int) == 0)) rfl hg11 rfl) ?_
      refine q1 (vb false) ?_
      refine qX false (by decide) ?_
      refine qX false (by decide) ?_
      refine qX false (by decide) ?_
      refine qX false (by decide) ?_
      refine step (v := vb false) (st_pickF (b := false) rfl (by decide) rfl) ?_
      refine q1 (vb false) ?_
      exact RunOps.nil' (nm [] ⟨.eq (by first | (simp [hg11]; done) | (simp_all; done) | grind), trivial⟩ trivial)
    have hh := Option.some.inj h
    subst hh
    refine NWp.ret ?_
    show FQ _ _ _ _
    exact FQ.mk1 (.inr rfl) (res_t (v := vb (((a0.Kids.length : Int) == 0) && ((decide (a0.F ≥ 0)) && (decide (a0.F < a1))))) rfl rfl) (RV.d trivial)
   ·
    replace h := iteF hc10 h
    refine NWp.condF (t := (a0.Op == 3)) rfl hc10 ?_
    refine NWp.opsJ ⟨tab [(1, vi a1), (2, vp0 a0), (5, vi (a0.Kids.length : Int)), (11, vi a0.Op), (56, vb (a0.Op == 5))], stab [], 0⟩ ?_ ?_
    ·
     refine q1 (vb (a0.Op == 5)) ?_
     refine q1 (vb (a0.Op == 5)) ?_
     exact nR []
    by_cases hc13 : (a0.Op == 5) = true
    ·
     replace h := iteT hc13 h
     refine NWp.condT (t := (a0.Op == 5)) rfl hc13 ?_
     refine NWp.opsJ ⟨tab [(4, vb (((a0.Kids.length : Int) == 0) && ((decide (a0.F ≥ 1)) && (decide (a0.F < 8)))))], stab [], 0⟩ ?_ ?_
     ·
      refine q1 (vi (a0.Kids.length : Int)) ?_
      refine q1 (vb ((a0.Kids.length : Int) == 0)) ?_
      refine q1 (vb ((a0.Kids.length : Int) == 0)) ?_
      by_cases hg14 : ((a0.Kids.length : Int) == 0) = true
      ·
       refine qG ((a0.Kids.length : Int) == 0) hg14 ?_
       refine q1 (.d (.cptr (some 4) (uapi_Pol a0) 1)) ?_
       refine qG ((a0.Kids.length : Int) == 0) hg14 ?_
       refine q1 (vi a0.F) ?_
       refine qG ((a0.Kids.length : Int) == 0) hg14 ?_
       refine q1 (vb (decide (a0.F ≥ 1))) ?_
       refine step (v := vb (decide (a0.F ≥ 1))) (st_pickT (b := ((a0.Kids.length : Int) == 0)) rfl hg14 rfl) ?_
       refine q1 (vb (decide (a0.F ≥ 1))) ?_
       by_cases hg15 : decide (a0.F ≥ 1) = true
       ·
        refine qG (decide (a0.F ≥ 1)) hg15 ?_
        refine q1 (.d (.cptr (some 4) (uapi_Pol a0) 1)) ?_
        refine qG (decide (a0.F ≥ 1)) hg15 ?_
        refine q1 (vi a0.F) ?_
        refine qG (decide (a0.F ≥ 1)) hg15 ?_
        refine q1 (vb (decide (a0.F < 8))) ?_
        refine step (v := vb (decide (a0.F < 8))) (st_pickT (b := decide (a0.F ≥ 1)) rfl hg15 rfl) ?_
        refine q1 (vb (decide (a0.F < 8))) ?_
        exact RunOps.nil' (nm [] ⟨.eq (by first | (simp [hg14, hg15]; done) | (simp_all; done) | grind), trivial⟩ trivial)
       ·
        refine qX (decide (a0.F ≥ 1)) hg15 ?_
        refine qX (decide (a0.F ≥ 1)) hg15 ?_
        refine qX (decide (a0.F ≥ 1)) hg15 ?_
        refine step (v := vb false) (st_pickF (b := decide (a0.F ≥ 1)) rfl hg15 rfl) ?_
        refine q1 (vb false) ?_
        exact RunOps.nil' (nm [] ⟨.eq (by first | (simp [hg14, hg15]; done) | (simp_all; done) | grind), trivial⟩ trivial)
      ·
       refine qX ((a0.Kids.length : Int) == 0) hg14 ?_
       refine qX ((a0.Kids.length : Int) == 0) hg14 ?_
       refine qX ((a0.Kids.length : Int) == 0) hg14 ?_
       refine step (v := vb false) (st_pickF (b := ((a0.Kids.length : Int) == 0)) rfl hg14 rfl) ?_
       refine q1 (vb false) ?_
       refine qX false (by decide) ?_
       refine qX false (by decide) ?_
       refine qX false (by decide) ?_
       refine step (v := vb false) (st_pickF (b := false) rfl (by decide) rfl) ?_
       refine q1 (vb false) ?_
       exact RunOps.nil' (nm [] ⟨.eq (by first | (simp [hg14]; done) | (simp_all; done) | grind), trivial⟩ trivial)
     have hh := Option.some.inj h
     subst hh
     refine NWp.ret ?_
     show FQ _ _ _ _
     exact FQ.mk1 (.inr rfl) (res_t (v := vb (((a0.Kids.length : Int) == 0) && ((decide (a0.F ≥ 1)) && (decide (a0.F < 8))))) rfl rfl) (RV.d trivial)
    ·
     replace h := iteF hc13 h
     refine NWp.condF (t := (a0.Op == 5)) rfl hc13 ?_
     refine NWp.opsJ ⟨tab [(1, vi a1), (2, vp0 a0), (5, vi (a0.Kids.length : Int)), (11, vi a0.Op), (70, vb (a0.Op == 4))], stab [], 0⟩ ?_ ?_
     ·
      refine q1 (vb (a0.Op == 4)) ?_
      refine q1 (vb (a0.Op == 4)) ?_
      exact nR []
     by_cases hc16 : (a0.Op == 4) = true
     ·
      replace h := iteT hc16 h
      refine NWp.condT (t := (a0.Op == 4)) rfl hc16 ?_
      obtain ⟨y24, hv, h⟩ := bindE h
      refine NWp.opsJ ⟨tab [(4, vb y24)], stab [], 0⟩ ?_ ?_
      ·
       refine q1 (vi (a0.Kids.length : Int)) ?_
       refine q1 (vb ((a0.Kids.length : Int) == 1)) ?_
       refine q1 (vb ((a0.Kids.length : Int) == 1)) ?_
       by_cases hg17 : ((a0.Kids.length : Int) == 1) = true
       ·
        replace hv := iteT hg17 hv
        refine qG ((a0.Kids.length : Int) == 1) hg17 ?_
        refine q1 (.d (.cptr (some 4) (uapi_Pol a0) 1)) ?_
        refine qG ((a0.Kids.length : Int) == 1) hg17 ?_
        refine q1 (vi a0.F) ?_
        refine qG ((a0.Kids.length : Int) == 1) hg17 ?_
        refine q1 (vb (a0.F == 0)) ?_
        refine step (v := vb (a0.F == 0)) (st_pickT (b := ((a0.Kids.length : Int) == 1)) rfl hg17 rfl) ?_
        refine q1 (vb (a0.F == 0)) ?_
        by_cases hg18 : (a0.F == 0) = true
        ·
         replace hv := iteT hg18 hv
         refine qG (a0.F == 0) hg18 ?_
         refine q1 (.d (.cptr (some 4) (uapi_Pol a0) 2)) ?_
         refine qG (a0.F == 0) hg18 ?_
         refine q1 (vh a0.N) ?_
         refine qG (a0.F == 0) hg18 ?_
         refine q1 (vb (a0.N == 0)) ?_
         refine step (v := vb (a0.N == 0)) (st_pickT (b := (a0.F == 0)) rfl hg18 rfl) ?_
         refine q1 (vb (a0.N == 0)) ?_
         by_cases hg19 : (a0.N == 0) = true
         ·
          replace hv := iteT hg19 hv
          obtain ⟨x20, hx20, hv⟩ := bindE hv
          obtain ⟨r21, hr21, hv⟩ := bindE hv
          refine qG (a0.N == 0) hg19 ?_
          refine q1 (.d (.cptr (some 4) (uapi_Pol a0) 3)) ?_
          refine qG (a0.N == 0) hg19 ?_
          refine q1 (vl0 a0.Kids) ?_
          refine qG (a0.N == 0) hg19 ?_
          refine step (v := vp0 x20) (st_iaddrU (xs := a0.Kids) (e := eapi_Pol) hx20 rfl rfl (eu_api_Pol _)) ?_
          refine qG (a0.N == 0) hg19 ?_
          refine q1 (vs0 x20) ?_
          refine qG (a0.N == 0) hg19 ?_
          refine stepC (r := .bool r21) (ArgsOk.dt ArgsOk.nil') (c_ref05_Predicate hr21) ?_
          refine step (v := vb r21) (st_pickT (b := (a0.N == 0)) rfl hg19 rfl) ?_
          refine q1 (vb r21) ?_
          by_cases hg22 : r21 = true
          ·
           replace hv := iteT hg22 hv
           obtain ⟨r23, hr23, hv⟩ := bindE hv
           refine qG r21 hg22 ?_
           refine q1 (.d (.cptr (some 4) (uapi_Pol a0) 3)) ?_
           refine qG r21 hg22 ?_
           refine q1 (vl0 a0.Kids) ?_
           refine qG r21 hg22 ?_
           refine step (v := vp0 x20) (st_iaddrU (xs := a0.Kids) (e := eapi_Pol) hx20 rfl rfl (eu_api_Pol _)) ?_
           refine qG r21 hg22 ?_
           refine q1 (vs0 x20) ?_
           refine qG r21 hg22 ?_
           refine q1 (vi a1) ?_
           refine qG r21 hg22 ?_
           refine stepC (r := .bool r23) (ArgsOk.dt (ArgsOk.dt ArgsOk.nil')) (hself _ _ _ hr23) ?_
           refine step (v := vb r23) (st_pickT (b := r21) rfl hg22 rfl) ?_
           refine q1 (vb r23) ?_
           have hh := Option.some.inj hv
           subst hh
           exact nR []
          ·
           replace hv := iteF hg22 hv
           refine qX r21 hg22 ?_
           refine qX r21 hg22 ?_
           refine qX r21 hg22 ?_
           refine qX r21 hg22 ?_
           refine qX r21 hg22 ?_
           refine qX r21 hg22 ?_
           refine step (v := vb false) (st_pickF (b := r21) rfl hg22 rfl) ?_
           refine q1 (vb false) ?_
           have hh := Option.some.inj hv
           subst hh
           exact nR []
         ·
          replace hv := iteF hg19 hv
          refine qX (a0.N == 0) hg19 ?_
          refine qX (a0.N == 0) hg19 ?_
          refine qX (a0.N == 0) hg19 ?_
          refine qX (a0.N == 0) hg19 ?_
          refine qX (a0.N == 0) hg19 ?_
          refine step (v := vb false) (st_pickF (b := (a0.N == 0)) rfl hg19 rfl) ?_
          refine q1 (vb false) ?_
          refine qX false (by decide) ?_
          refine qX false (by decide) ?_
          refine qX false (by decide) ?_
          refine qX false (by decide) ?_
          refine qX false (by decide) ?_
          refine qX false (by decide) ?_
          refine step (v := vb false) (st_pickF (b := false) rfl (by decide) rfl) ?_
          refine q1 (vb false) ?_
          have hh := Option.some.inj hv
          subst hh
          exact nR []
        ·
         replace hv := iteF hg18 hv
         refine qX (a0.F == 0) hg18 ?_
         refine qX (a0.F == 0) hg18 ?_
         refine qX (a0.F == 0) hg18 ?_
         refine step (v := vb false) (st_pickF (b := (a0.F == 0)) rfl hg18 rfl) ?_
         refine q1 (vb false) ?_
         refine qX false (by decide) ?_
         refine qX false (by decide) ?_
         refine qX false (by decide) ?_
         refine qX false (by decide) ?_
         refine qX false (by decide) ?_
         refine step (v := vb false) (st_pickF (b := false) rfl (by decide) rfl) ?_
         refine q1 (vb false) ?_
         refine qX false (by decide) ?_
         refine qX false (by decide) ?_
         refine qX false (by decide) ?_
         refine qX false (by decide) ?_
         refine qX false (by decide) ?_
         refine qX false (by decide) ?_
         refine step (v := vb false) (st_pickF (b := false) rfl (by decide) rfl) ?_
         refine q1 (vb false) ?_
         have hh := Option.some.inj hv
         subst hh
         exact nR []
       ·
        replace hv := iteF hg17 hv
        refine qX ((a0.Kids.length : Int) == 1) hg17 ?_
        refine qX ((a0.Kids.length : Int) == 1) hg17 ?_
        refine qX ((a0.Kids.length : Int) == 1) hg17 ?_
        refine step (v := vb false) (st_pickF (b := ((a0.Kids.length : Int) == 1)) rfl hg17 rfl) ?_
        refine q1 (vb false) ?_
        refine qX false (by decide) ?_
        refine qX false (by decide) ?_
        refine qX false (by decide) ?_
        refine step (v := vb false) (st_pickF (b := false) rfl (by decide) rfl) ?_
        refine q1 (vb false) ?_
        refine qX false (by decide) ?_
        refine qX false (by decide) ?_
        refine qX false (by decide) ?_
        refine qX false (by decide) ?_
        refine qX false (by decide) ?_
        refine step (v := vb false) (st_pickF (b := false) rfl (by decide) rfl) ?_
        refine q1 (vb false) ?_
        refine qX false (by decide) ?_
        refine qX false (by decide) ?_
        refine qX false (by decide) ?_
        refine qX false (by decide) ?_
        refine qX false (by decide) ?_
        refine qX false (by decide) ?_
        refine step (v := vb false) (st_pickF (b := false) rfl (by decide) rfl) ?_
        refine q1 (vb false) ?_
        have hh := Option.some.inj hv
        subst hh
        exact nR []
      have hh := Option.some.inj h
      subst hh
      refine NWp.ret ?_
      show FQ _ _ _ _
      exact FQ.mk1 (.inr rfl) (res_t (v := vb y24) rfl rfl) (RV.d trivial)
     ·
      replace h := iteF hc16 h
      refine NWp.condF (t := (a0.Op == 4)) rfl hc16 ?_
      obtain ⟨y27, hv, h⟩ := bindE h
      refine NWp.seqN ⟨tab [(1, vi a1), (2, vp0 a0), (5, vi (a0.Kids.length : Int)), (99, vb y27)], stab [], 0⟩ ?_ ?_
      ·
       replace h := hv
       refine NWp.opsJ ⟨tab [(1, vi a1), (2, vp0 a0), (5, vi (a0.Kids.length : Int)), (11, vi a0.Op), (99, vb (a0.Op == 6))], stab [], 0⟩ ?_ ?_
       ·
        refine q1 (vb (a0.Op == 6)) ?_
        refine q1 (vb (a0.Op == 6)) ?_
        exact nR []
       by_cases hc26 : (a0.Op == 6) = true
       ·
        replace h := iteT hc26 h
        refine NWp.condT (t := (a0.Op == 6)) rfl hc26 ?_
        have hh := Option.some.inj h
        subst hh
        refine NWp.norm (s0 := ⟨tab [(1, vi a1), (2, vp0 a0), (5, vi (a0.Kids.length : Int)), (99, vb (a0.Op == 6))], stab [], 0⟩) (nr []) ?_
        refine NWp.skip ?_
        exact And.intro rfl rfl
       ·
        replace h := iteF hc26 h
        refine NWp.condF (t := (a0.Op == 6)) rfl hc26 ?_
        have hh := Option.some.inj h
        subst hh
        refine NWp.opsE ⟨tab [(1, vi a1), (2, vp0 a0), (5, vi (a0.Kids.length : Int)), (99, vb (a0.Op == 7))], stab [], 0⟩ ?_ ?_
        ·
         refine q1 (vb (a0.Op == 7)) ?_
         refine q1 (vb (a0.Op == 7)) ?_
         exact nR []
        exact And.intro rfl rfl
      by_cases hc29 : y27 = true
      ·
       replace h := iteT hc29 h
       refine NWp.condT (t := y27) rfl hc29 ?_
       refine NWp.seq ?_
       refine NWp.opsJ ⟨tab [(1, vi a1), (2, vp0 a0), (5, vi (a0.Kids.length : Int)), (113, vb ((decide ((a0.Kids.length : Int) < 2)) || ((a0.F != 0) || (a0.N != 0))))], stab [], 0⟩ ?_ ?_
       ·
        refine q1 (vi (a0.Kids.length : Int)) ?_
        refine q1 (vb (decide ((a0.Kids.length : Int) < 2))) ?_
        refine q1 (vb (decide ((a0.Kids.length : Int) < 2))) ?_
        by_cases hg30 : decide ((a0.Kids.length : Int) < 2) = true
        ·
         refine qX (decide ((a0.Kids.length : Int) < 2)) (by rw [hg30]; decide) ?_
         refine qX (decide ((a0.Kids.length : Int) < 2)) (by rw [hg30]; decide) ?_
         refine qX (decide ((a0.Kids.length : Int) < 2)) (by rw [hg30]; decide) ?_
         refine step (v := vb true) (st_pickT (b := decide ((a0.Kids.length : Int) < 2)) rfl hg30 rfl) ?_
         refine q1 (vb true) ?_
         refine qX true (by decide) ?_
         refine qX true (by decide) ?_
         refine qX true (by decide) ?_
         refine step (v := vb true) (st_pickT (b := true) rfl rfl rfl) ?_
         exact RunOps.nil' (nm [] ⟨.d _, .d _, .d _, .eq (by first | (simp [hg30]; done) | (simp_all; done) | grind), trivial⟩ trivial)
        ·
         refine qG (decide ((a0.Kids.length : Int) < 2)) (Bool.eq_false_iff.2 hg30) ?_
         refine q1 (.d (.cptr (some 4) (uapi_Pol a0) 1)) ?_
         refine qG (decide ((a0.Kids.length : Int) < 2)) (Bool.eq_false_iff.2 hg30) ?_
         refine q1 (vi a0.F) ?_
         refine qG (decide ((a0.Kids.length : Int) < 2)) (Bool.eq_false_iff.2 hg30) ?_
         refine q1 (vb (a0.F != 0)) ?_
         refine step (v := vb (a0.F != 0)) (st_pickF (b := decide ((a0.Kids.length : Int) < 2)) rfl hg30 rfl) ?_
         refine q1 (vb (a0.F != 0)) ?_
         by_cases hg31 : (a0.F != 0) = true
         ·
          refine qX (a0.F != 0) (by rw [hg31]; decide) ?_
          refine qX (a0.F != 0) (by rw [hg31]; decide) ?_
          refine qX (a0.F != 0) (by rw [hg31]; decide) ?_
          refine step (v := vb true) (st_pickT (b := (a0.F != 0)) rfl hg31 rfl) ?_
          exact RunOps.nil' (nm [] ⟨.d _, .d _, .d _, .eq (by first | (simp [hg30, hg31]; done) | (simp_all; done) | grind), trivial⟩ trivial)
         ·
          refine qG (a0.F != 0) (Bool.eq_false_iff.2 hg31) ?_
          refine q1 (.d (.cptr (some 4) (uapi_Pol a0) 2)) ?_
          refine qG (a0.F != 0) (Bool.eq_false_iff.2 hg31) ?_
          refine q1 (vh a0.N) ?_
          refine qG (a0.F != 0) (Bool.eq_false_iff.2 hg31) ?_
          refine q1 (vb (a0.N != 0)) ?_
          refine step (v := vb (a0.N != 0)) (st_pickF (b := (a0.F != 0)) rfl hg31 rfl) ?_
          exact RunOps.nil' (nm [] ⟨.d _, .d _, .d _, .eq (by first | (simp [hg30, hg31]; done) | (simp_all; done) | grind), trivial⟩ trivial)
       by_cases hc32 : ((decide ((a0.Kids.length : Int) < 2)) || ((a0.F != 0) || (a0.N != 0))) = true
       ·
        replace h := iteT hc32 h
        refine NWp.condT (t := ((decide ((a0.Kids.length : Int) < 2)) || ((a0.F != 0) || (a0.N != 0)))) rfl hc32 ?_
        refine NWp.opsJ ⟨tab [(4, vb false)], stab [], 0⟩ ?_ ?_
        ·
         refine q1 (vb false) ?_
         exact nR []
        have hh := Option.some.inj h
        subst hh
        refine NWp.ret ?_
        show FQ _ _ _ _
        exact FQ.mk1 (.inr rfl) (res_t (v := vb false) rfl rfl) (RV.d trivial)
       ·
        replace h := iteF hc32 h
        refine NWp.condF (t := ((decide ((a0.Kids.length : Int) < 2)) || ((a0.F != 0) || (a0.N != 0)))) rfl hc32 ?_
        refine NWp.skip ?_
        refine NWp.seq ?_
        refine NWp.opsJ ⟨tab [(1, vi a1), (2, vp0 a0), (5, vi (a0.Kids.length : Int)), (6, vi 0)], stab [], 0⟩ ?_ ?_
        ·
         refine q1 (vi 0) ?_
         exact nR []
        obtain ⟨q42, hl, h⟩ := bindE h
        refine NWp.block ?_
        refine loop_forR (cntU (a0.Kids.length : Int)) (fun (i33 : Int) (qq : Unit) => ⟨tab [(1, vi a1), (2, vp0 a0), (5, vi (a0.Kids.length : Int)), (6, vi i33)], stab [], 0⟩) 1 (fun (qq : Unit) => ⟨tab [], stab [], 0⟩) Low low_step (r := r) hl (by unfold Low; omega) ?_ ?_ ?_ ?_
        ·
         rintro i33 ⟨⟩ xr38 hinv36 hgo35 h
         show NWp _ _ _ _ _ ⟨tab [(1, vi a1), (2, vp0 a0), (5, vi (a0.Kids.length : Int)), (6, vi i33)], stab [], 0⟩
         have hc37 : decide (i33 < (a0.Kids.length : Int)) = true := decide_eq_true hgo35
         refine NWp.seq ?_
         refine NWp.opsJ ⟨tab [(1, vi a1), (2, vp0 a0), (5, vi (a0.Kids.length : Int)), (6, vi i33), (115, vi (a0.Kids.length : Int)), (116, vb (decide (i33 < (a0.Kids.length : Int))))], stab [], 0⟩ ?_ ?_
         ·
          refine q1 (vi i33) ?_
          refine q1 (vi (a0.Kids.length : Int)) ?_
          refine q1 (vb (decide (i33 < (a0.Kids.length : Int)))) ?_
          exact nR []
         refine NWp.rng 115 rfl fun hB34 => ?_
         refine NWp.condT (t := decide (i33 < (a0.Kids.length : Int))) rfl hc37 ?_
         refine NWp.skip ?_
         refine NWp.seq ?_
         refine NWp.block ?_
         obtain ⟨x39, hx39, h⟩ := bindE h
         obtain ⟨r40, hr40, h⟩ := bindE h
         refine NWp.opsJ ⟨tab [(1, vi a1), (2, vp0 a0), (5, vi (a0.Kids.length : Int)), (6, vi i33), (126, vb (!r40))], stab [], 0⟩ ?_ ?_
         ·
          refine q1 (.d (.cptr (some 4) (uapi_Pol a0) 3)) ?_
          refine q1 (vl0 a0.Kids) ?_
          refine q1 (vi i33) ?_
          refine step (v := vp0 x39) (st_iaddrU (xs := a0.Kids) (e := eapi_Pol) hx39 rfl rfl (eu_api_Pol _)) ?_
          refine q1 (vs0 x39) ?_
          refine q1 (vi a1) ?_
          refine stepC (r := .bool r40) (ArgsOk.dt (ArgsOk.dt ArgsOk.nil')) (hself _ _ _ hr40) ?_
          refine q1 (vb (!r40)) ?_
          exact nR []
         by_cases hc41 : (!r40) = true
         ·
          replace h := iteT hc41 h
          refine NWp.condT (t := (!r40)) rfl hc41 ?_
          refine NWp.opsJ ⟨tab [(4, vb false)], stab [], 0⟩ ?_ ?_
          ·
           refine q1 (vb false) ?_
           exact nR []
          obtain ⟨r42, kr42, hr⟩ := mapE (o := some false) (g := Br.ret) h
          subst hr
          have h := kr42
          have hh := Option.some.inj h
          subst hh
          refine NWp.ret ?_
          refine And.intro (fun hn => nomatch hn) ?_
          intro hq
          have hq := hq.symm
          subst hq
          show FQ _ _ _ _
          exact FQ.mk1 (.inr rfl) (res_t (v := vb false) rfl rfl) (RV.d trivial)
         ·
          replace h := iteF hc41 h
          refine NWp.condF (t := (!r40)) rfl hc41 ?_
          refine NWp.skip ?_
          have hh := Option.some.inj h
          subst hh
          refine NWp.opsE ⟨tab [(1, vi a1), (2, vp0 a0), (5, vi (a0.Kids.length : Int)), (6, vi (i33 + 1))], stab [], 0⟩ ?_ ?_
          ·
           refine q1 (vi i33) ?_
           refine step (v := vi (i33 + 1)) (st_inc (inc_ok hinv36 hgo35 hB34) rfl rfl) ?_
           refine q1 (vi (i33 + 1)) ?_
           exact nR []
          exact And.intro rfl rfl
        ·
         rintro i33 ⟨⟩ hinv36 hgo35
         show NWp _ _ _ _ _ ⟨tab [(1, vi a1), (2, vp0 a0), (5, vi (a0.Kids.length : Int)), (6, vi i33)], stab [], 0⟩
         have hc37 : ¬ (decide (i33 < (a0.Kids.length : Int)) = true) := fun hq => hgo35 (of_decide_eq_true hq)
         refine NWp.seq ?_
         refine NWp.opsJ ⟨tab [(1, vi a1), (2, vp0 a0), (5, vi (a0.Kids.length : Int)), (6, vi i33), (116, vb (decide (i33 < (a0.Kids.length : Int))))], stab [], 0⟩ ?_ ?_
         ·
          refine q1 (vi i33) ?_
          refine q1 (vi (a0.Kids.length : Int)) ?_
          refine q1 (vb (decide (i33 < (a0.Kids.length : Int)))) ?_
          exact nR []
         refine NWp.condF (t := decide (i33 < (a0.Kids.length : Int))) rfl hc37 ?_
         refine NWp.norm (s0 := ⟨tab [], stab [], 0⟩) (nr []) ?_
         refine NWp.exit ?_
         exact And.intro rfl rfl
        ·
         intro r' hq
         subst hq
         exact Option.some.inj h
        rintro ⟨⟩ rfl
        refine NWp.opsJ ⟨tab [(4, vb true)], stab [], 0⟩ ?_ ?_
        ·
         refine q1 (vb true) ?_
         exact nR []
        have hh := Option.some.inj h
        subst hh
        refine NWp.ret ?_
        show FQ _ _ _ _
        exact FQ.mk1 (.inr rfl) (res_t (v := vb true) rfl rfl) (RV.d trivial)
      ·
       replace h := iteF hc29 h
       refine NWp.condF (t := y27) rfl hc29 ?_
       refine NWp.skip ?_
       refine NWp.opsJ ⟨tab [(4, vb false)], stab [], 0⟩ ?_ ?_
       ·
        refine q1 (vb false) ?_
        exact nR []
       have hh := Option.some.inj h
       subst hh
       refine NWp.ret ?_
       show FQ _ _ _ _
       exact FQ.mk1 (.inr rfl) (res_t (v := vb false) rfl rfl) (RV.d trivial)

theorem c_ref05_formed_f : ∀ (k : Nat) (a0 : api_Pol) (a1 : Int) (r : Bool), ref05_formed_f k a0 a1 = some r → PCall Try.prog 79 [uapi_Pol a0, .int .i64 a1] (.bool r)
 | 0, _, _, _, h => by cases h
 | k + 1, _, _, _, h => c_ref05_formed_s (c_ref05_formed_f k) h

theorem c_ref05_formed {a0 : api_Pol} {a1 : Int} {r : Bool} (h : ref05_formed a0 a1 = some r) : PCall Try.prog 79 [uapi_Pol a0, .int .i64 a1] (.bool r) := c_ref05_formed_f FUEL _ _ _ h

theorem c_ref05_rising {a0 : (List api_Pair)} {a1 : Int} {r : Bool} (h : ref05_rising a0 a1 = some r) : PCall Try.prog 80 [eL (some 2) eapi_Pair a0, .int .i64 a1] (.bool r) := by
 refine PCall.introN ok80 (show 2 ≤ 45 by decide) ?_
 refine NWp.norm (s0 := ⟨tab [(0, vl1 a0), (1, vi a1)], stab [], 0⟩) (nr []) ?_
 refine NWp.opsJ ⟨tab [(0, vl1 a0), (1, vi a1)], stab [], 0⟩ ?_ ?_
 ·
  refine q1 (vb false) ?_
  exact nR []
 refine NWp.seq ?_
 refine NWp.opsJ ⟨tab [(0, vl1 a0), (1, vi a1), (5, vi 0)], stab [], 0⟩ ?_ ?_
 ·
  refine q1 (vi 0) ?_
  exact nR []
 obtain ⟨q15, hl, h⟩ := bindE h
 refine NWp.block ?_
 refine loop_forR (cntU (a0.length : Int)) (fun (i1 : Int) (qq : Unit) => ⟨tab [(0, vl1 a0), (1, vi a1), (5, vi i1)], stab [], 0⟩) 0 (fun (qq : Unit) => ⟨tab [], stab [], 0⟩) Low low_step (r := r) hl (by unfold Low; omega) ?_ ?_ ?_ ?_
 ·
  rintro i1 ⟨⟩ xr6 hinv4 hgo3 h
  show NWp _ _ _ _ _ ⟨tab [(0, vl1 a0), (1, vi a1), (5, vi i1)], stab [], 0⟩
  have hc5 : decide (i1 < (a0.length : Int)) = true := decide_eq_true hgo3
  refine NWp.seq ?_
  refine NWp.opsJ ⟨tab [(0, vl1 a0), (1, vi a1), (5, vi i1), (8, vi (a0.length : Int)), (9, vb (decide (i1 < (a0.length : Int))))], stab [], 0⟩ ?_ ?_
  ·
   refine q1 (vi i1) ?_
   refine q1 (vl1 a0) ?_
   refine step (v := vi (a0.length : Int)) (st_len (xs := a0) (e := eapi_Pair) rfl) ?_
   refine q1 (vb (decide (i1 < (a0.length : Int)))) ?_
   exact nR []
  refine NWp.rng 8 rfl fun hB2 => ?_
  refine NWp.condT (t := decide (i1 < (a0.length : Int))) rfl hc5 ?_
  refine NWp.skip ?_
  refine NWp.seq ?_
  refine NWp.block ?_
  obtain ⟨x7, hx7, h⟩ := bindE h
  obtain ⟨y12, hv, h⟩ := bindE h
  refine NWp.opsJ ⟨tab [(0, vl1 a0), (1, vi a1), (5, vi i1), (44, vb y12)], stab [], 0⟩ ?_ ?_
  ·
   refine q1 (vl1 a0) ?_
   refine q1 (vi i1) ?_
   refine step (v := vp2 x7) (st_iaddr (xs := a0) (e := eapi_Pair) hx7 rfl rfl) ?_
   refine q1 (vp2 x7) ?_
   refine q1 (vi x7.F) ?_
   refine q1 (vb (decide (x7.F < 0))) ?_
   refine q1 (vb (decide (x7.F < 0))) ?_
   by_cases hg8 : decide (x7.F < 0) = true
   ·
    replace hv := iteT hg8 hv
    refine qX (decide (x7.F < 0)) (by rw [hg8]; decide) ?_
    refine qX (decide (x7.F < 0)) (by rw [hg8]; decide) ?_
    refine qX (decide (x7.F < 0)) (by rw [hg8]; decide) ?_
    refine qX (decide (x7.F < 0)) (by rw [hg8]; decide) ?_
    refine qX (decide (x7.F < 0)) (by rw [hg8]; decide) ?_
    refine qX (decide (x7.F < 0)) (by rw [hg8]; decide) ?_
    refine qX (decide (x7.F < 0)) (by rw [hg8]; decide) ?_
    refine step (v := vb true) (st_pickT (b := decide (x7.F < 0)) rfl hg8 rfl) ?_
    refine q1 (vb true) ?_
    refine qX true (by decide) ?_
    refine qX true (by decide) ?_
    refine qX true (by decide) ?_
    refine stepXX rfl ?_
    refine stepXX rfl ?_
    refine stepXX rfl ?_
    refine stepXX rfl ?_
    refine stepXX rfl ?_
    refine stepXX rfl ?_
    refine stepXX rfl ?_
    refine stepXX rfl ?_
    refine stepXX rfl ?_
    refine stepXX rfl ?_
    refine stepXX rfl ?_
    refine stepXX rfl ?_
    refine qX true (by decide) ?_
    refine step (v := vb true) (st_pickT (b := true) rfl rfl rfl) ?_
    have hh := Option.some.inj hv
    subst hh
    exact nR []
   ·
    replace hv := iteF hg8 hv
    refine qG (decide (x7.F < 0)) (Bool.eq_false_iff.2 hg8) ?_
    refine q1 (vl1 a0) ?_
    refine qG (decide (x7.F < 0)) (Bool.eq_false_iff.2 hg8) ?_
    refine q1 (vi i1) ?_
    refine qG (decide (x7.F < 0)) (Bool.eq_false_iff.2 hg8) ?_
    refine step (v := vp2 x7) (st_iaddr (xs := a0) (e := eapi_Pair) hx7 rfl rfl) ?_
    refine qG (decide (x7.F < 0)) (Bool.eq_false_iff.2 hg8) ?_
    refine q1 (vp2 x7) ?_
    refine qG (decide (x7.F < 0)) (Bool.eq_false_iff.2 hg8) ?_
    refine q1 (vi x7.F) ?_
    refine qG (decide (x7.F < 0)) (Bool.eq_false_iff.2 hg8) ?_
    refine q1 (vi a1) ?_
    refine qG (decide (x7.F < 0)) (Bool.eq_false_iff.2 hg8) ?_
    refine q1 (vb (decide (x7.F ≥ a1))) ?_
    refine step (v := vb (decide (x7.F ≥ a1))) (st_pickF (b := decide (x7.F < 0)) rfl hg8 rfl) ?_
    refine q1 (vb (decide (x7.F ≥ a1))) ?_
    by_cases hg9 : decide (x7.F ≥ a1) = true
    ·
     replace hv := iteT hg9 hv
     refine qX (decide (x7.F ≥ a1)) (by rw [hg9]; decide) ?_
     refine qX (decide (x7.F ≥ a1)) (by rw [hg9]; decide) ?_
     refine qX (decide (x7.F ≥ a1)) (by rw [hg9]; decide) ?_
     refine stepXX rfl ?_
     refine stepXX rfl ?_
     refine stepXX rfl ?_
     refine stepXX rfl ?_
     refine stepXX rfl ?_
     refine stepXX rfl ?_
     refine stepXX rfl ?_
     refine stepXX rfl ?_
     refine stepXX rfl ?_
     refine stepXX rfl ?_
     refine stepXX rfl ?_
     refine stepXX rfl ?_
     refine qX (decide (x7.F ≥ a1)) (by rw [hg9]; decide) ?_
     refine step (v := vb true) (st_pickT (b := decide (x7.F ≥ a1)) rfl hg9 rfl) ?_
     have hh := Option.some.inj hv
     subst hh
     exact nR []
    ·
     replace hv := iteF hg9 hv
     refine qG (decide (x7.F ≥ a1)) (Bool.eq_false_iff.2 hg9) ?_
     refine q1 (vi i1) ?_
     refine qG (decide (x7.F ≥ a1)) (Bool.eq_false_iff.2 hg9) ?_
     refine q1 (vb (decide (i1 > 0))) ?_
     refine qG (decide (x7.F ≥ a1)) (Bool.eq_false_iff.2 hg9) ?_
     refine q1 (vb (decide (i1 > 0))) ?_
     by_cases hg10 : decide (i1 > 0) = true
     ·
      replace hv := iteT hg10 hv
      obtain ⟨x11, hx11, hv⟩ := bindE hv
      refine qG (decide (i1 > 0)) hg10 ?_
      refine q1 (vl1 a0) ?_
      refine qG (decide (i1 > 0)) hg10 ?_
      refine q1 (vi i1) ?_
      refine qG (decide (i1 > 0)) hg10 ?_
      refine q1 (vi (IntKind.i64.wrap (i1 - 1))) ?_
      refine qG (decide (i1 > 0)) hg10 ?_
      refine step (v := vp2 x11) (st_iaddr (xs := a0) (e := eapi_Pair) hx11 rfl rfl) ?_
      refine qG (decide (i1 > 0)) hg10 ?_
      refine q1 (vp2 x11) ?_
      refine qG (decide (i1 > 0)) hg10 ?_
      refine q1 (vi x11.F) ?_
      refine qG (decide (i1 > 0)) hg10 ?_
      refine q1 (vl1 a0) ?_
      refine qG (decide (i1 > 0)) hg10 ?_
      refine q1 (vi i1) ?_
      refine qG (decide (i1 > 0)) hg10 ?_
      refine step (v := vp2 x7) (st_iaddr (xs := a0) (e := eapi_Pair) hx7 rfl rfl) ?_
      refine qG (decide (i1 > 0)) hg10 ?_
      refine q1 (vp2 x7) ?_
      refine qG (decide (i1 > 0)) hg10 ?_
      refine q1 (vi x7.F) ?_
      refine qG (decide (i1 > 0)) hg10 ?_
      refine q1 (vb (decide (x11.F ≥ x7.F))) ?_
      refine qG (decide (x7.F ≥ a1)) (Bool.eq_false_iff.2 hg9) ?_
      refine step (v := vb (decide (x11.F ≥ x7.F))) (st_pickT (b := decide (i1 > 0)) rfl hg10 rfl) ?_
      refine step (v := vb (decide (x11.F ≥ x7.F))) (st_pickF (b := decide (x7.F ≥ a1)) rfl hg9 rfl) ?_
      have hh := Option.some.inj hv
      subst hh
      exact nR []
     ·
      replace hv := iteF hg10 hv
      refine qX (decide (i1 > 0)) hg10 ?_
      refine qX (decide (i1 > 0)) hg10 ?_
      refine qX (decide (i1 > 0)) hg10 ?_
      refine qX (decide (i1 > 0)) hg10 ?_
      refine qX (decide (i1 > 0)) hg10 ?_
      refine qX (decide (i1 > 0)) hg10 ?_
      refine qX (decide (i1 > 0)) hg10 ?_
      refine qX (decide (i1 > 0)) hg10 ?_
      refine qX (decide (i1 > 0)) hg10 ?_
      refine qX (decide (i1 > 0)) hg10 ?_
      refine qX (decide (i1 > 0)) hg10 ?_
      refine qX (decide (i1 > 0)) hg10 ?_
      refine qG (decide (x7.F ≥ a1)) (Bool.eq_false_iff.2 hg9) ?_
      refine step (v := vb false) (st_pickF (b := decide (i1 > 0)) rfl hg10 rfl) ?_
      refine step (v := vb false) (st_pickF (b := decide (x7.F ≥ a1)) rfl hg9 rfl) ?_
      have hh := Option.some.inj hv
      subst hh
      exact nR []
  by_cases hc14 : y12 = true
  ·
   replace h := iteT hc14 h
   refine NWp.condT (t := y12) rfl hc14 ?_
   refine NWp.opsJ ⟨tab [(4, vb false)], stab [], 0⟩ ?_ ?_
   ·
    refine q1 (vb false) ?_
    exact nR []
   obtain ⟨r15, kr15, hr⟩ := mapE (o := some false) (g := Br.ret) h
   subst hr
   have h := kr15
   have hh := Option.some.inj h
   subst hh
   refine NWp.ret ?_
   refine And.intro (fun hn => nomatch hn) ?_
   intro hq
   have hq := hq.symm
   subst hq
   show FQ _ _ _ _
   exact FQ.mk1 (.inr rfl) (res_t (v := vb false) rfl rfl) (RV.d trivial)
  ·
   replace h := iteF hc14 h
   refine NWp.condF (t := y12) rfl hc14 ?_
   refine NWp.skip ?_
   have hh := Option.some.inj h
   subst hh
   refine NWp.opsE ⟨tab [(0, vl1 a0), (1, vi a1), (5, vi (i1 + 1))], stab [], 0⟩ ?_ ?_
   ·
    refine q1 (vi i1) ?_
    refine step (v := vi (i1 + 1)) (st_inc (inc_ok hinv4 hgo3 hB2) rfl rfl) ?_
    refine q1 (vi (i1 + 1)) ?_
    exact nR []
   exact And.intro rfl rfl
 ·
  rintro i1 ⟨⟩ hinv4 hgo3
  show NWp _ _ _ _ _ ⟨tab [(0, vl1 a0), (1, vi a1), (5, vi i1)], stab [], 0⟩
  have hc5 : ¬ (decide (i1 < (a0.length : Int)) = true) := fun hq => hgo3 (of_decide_eq_true hq)
  refine NWp.seq ?_
  refine NWp.opsJ ⟨tab [(0, vl1 a0), (1, vi a1), (5, vi i1), (9, vb (decide (i1 < (a0.length : Int))))], stab [], 0⟩ ?_ ?_
  ·
   refine q1 (vi i1) ?_
   refine q1 (vl1 a0) ?_
   refine step (v := vi (a0.length : Int)) (st_len (xs := a0) (e := eapi_Pair) rfl) ?_
   refine q1 (vb (decide (i1 < (a0.length : Int)))) ?_
   exact nR []
  refine NWp.condF (t := decide (i1 < (a0.length : Int))) rfl hc5 ?_
  refine NWp.norm (s0 := ⟨tab [], stab [], 0⟩) (nr []) ?_
  refine NWp.exit ?_
  exact And.intro rfl rfl
 ·
  intro r' hq
  subst hq
  exact Option.some.inj h
 rintro ⟨⟩ rfl
 refine NWp.opsJ ⟨tab [(4, vb true)], stab [], 0⟩ ?_ ?_
 ·
  refine q1 (vb true) ?_
  exact nR []
 have hh := Option.some.inj h
 subst hh
 refine NWp.ret ?_
 show FQ _ _ _ _
 exact FQ.mk1 (.inr rfl) (res_t (v := vb true) rfl rfl) (RV.d trivial)

theorem c_ref05_Check {a0 : api_Program} {r : Int} (h : ref05_Check a0 = some r) : PCall Try.prog 51 [eapi_Program a0] (.int .i64 r) := by
 refine PCall.introN ok51 (show 1 ≤ 102 by decide) ?_
 refine NWp.norm (s0 := ⟨tab [(0, vs1 a0)], stab [], 0⟩) (nr []) ?_
 refine NWp.opsJ ⟨tab [(1, vp1 a0)], stab [], 0⟩ ?_ ?_
 ·
  refine q1 (vp1 a0) ?_
  refine q1 (vi 0) ?_
  exact nR []
 refine NWp.seq ?_
 obtain ⟨y7, hv, h⟩ := bindE h
 refine NWp.opsJ ⟨tab [(1, vp1 a0), (32, vb y7)], stab [], 0⟩ ?_ ?_
 ·
  refine q1 (vp1 a0) ?_
  refine q1 (vl3 a0.Init) ?_
  refine step (v := vi (a0.Init.length : Int)) (st_len (xs := a0.Init) (e := (D.int .u16)) rfl) ?_
  refine q1 (vb (decide ((a0.Init.length : Int) < 1))) ?_
  refine q1 (vb (decide ((a0.Init.length : Int) < 1))) ?_
  by_cases hg1 : decide ((a0.Init.length : Int) < 1) = true
  ·
   replace hv := iteT hg1 hv
   refine qX (decide ((a0.Init.length : Int) < 1)) (by rw [hg1]; decide) ?_
   refine qX (decide ((a0.Init.length : Int) < 1)) (by rw [hg1]; decide) ?_
   refine qX (decide ((a0.Init.length : Int) < 1)) (by rw [hg1]; decide) ?_
   refine qX (decide ((a0.Init.length : Int) < 1)) (by rw [hg1]; decide) ?_
   refine step (v := vb true) (st_pickT (b := decide ((a0.Init.length : Int) < 1)) rfl hg1 rfl) ?_
   refine q1 (vb true) ?_
   refine qX true (by decide) ?_
   refine qX true (by decide) ?_
   refine qX true (by decide) ?_
   refine qX true (by decide) ?_
   refine step (v := vb true) (st_pickT (b := true) rfl rfl rfl) ?_
   refine q1 (vb true) ?_
   refine qX true (by decide) ?_
   refine qX true (by decide) ?_
   refine qX true (by decide) ?_
   refine qX true (by decide) ?_
   refine step (v := vb true) (st_pickT (b := true) rfl rfl rfl) ?_
   refine q1 (vb true) ?_
   refine qX true (by decide) ?_
   refine qX true (by decide) ?_
   refine qX true (by decide) ?_
   refine qX true (by decide) ?_
   refine step (v := vb true) (st_pickT (b := true) rfl rfl rfl) ?_
   have hh := Option.some.inj hv
   subst hh
   exact nR []
  ·
   replace hv := iteF hg1 hv
   refine qG (decide ((a0.Init.length : Int) < 1)) (Bool.eq_false_iff.2 hg1) ?_
   refine q1 (vp1 a0) ?_
   refine qG (decide ((a0.Init.length : Int) < 1)) (Bool.eq_false_iff.2 hg1) ?_
   refine q1 (vl3 a0.Init) ?_
   refine qG (decide ((a0.Init.length : Int) < 1)) (Bool.eq_false_iff.2 hg1) ?_
   refine step (v := vi (a0.Init.length : Int)) (st_len (xs := a0.Init) (e := (D.int .u16)) rfl) ?_
   refine qG (decide ((a0.Init.length : Int) < 1)) (Bool.eq_false_iff.2 hg1) ?_
   refine q1 (vb (decide ((a0.Init.length : Int) > 4))) ?_
   refine step (v := vb (decide ((a0.Init.length : Int) > 4))) (st_pickF (b := decide ((a0.Init.length : Int) < 1)) rfl hg1 rfl) ?_
   refine q1 (vb (decide ((a0.Init.length : Int) > 4))) ?_
   by_cases hg2 : decide ((a0.Init.length : Int) > 4) = true
   ·
    replace hv := iteT hg2 hv
    refine qX (decide ((a0.Init.length : Int) > 4)) (by rw [hg2]; decide) ?_
    refine qX (decide ((a0.Init.length : Int) > 4)) (by rw [hg2]; decide) ?_
    refine qX (decide ((a0.Init.length : Int) > 4)) (by rw [hg2]; decide) ?_
    refine qX (decide ((a0.Init.length : Int) > 4)) (by rw [hg2]; decide) ?_
    refine step (v := vb true) (st_pickT (b := decide ((a0.Init.length : Int) > 4)) rfl hg2 rfl) ?_
    refine q1 (vb true) ?_
    refine qX true (by decide) ?_
    refine qX true (by decide) ?_
    refine qX true (by decide) ?_
    refine qX true (by decide) ?_
    refine step (v := vb true) (st_pickT (b := true) rfl rfl rfl) ?_
    refine q1 (vb true) ?_
    refine qX true (by decide) ?_
    refine qX true (by decide) ?_
    refine qX true (by decide) ?_
    refine qX true (by decide) ?_
    refine step (v := vb true) (st_pickT (b := true) rfl rfl rfl) ?_
    have hh := Option.some.inj hv
    subst hh
    exact nR []
   ·
    replace hv := iteF hg2 hv
    obtain ⟨r3, hr3, hv⟩ := bindE hv
    refine qG (decide ((a0.Init.length : Int) > 4)) (Bool.eq_false_iff.2 hg2) ?_
    refine q1 (.d (.cptr (some 6) (eapi_Program a0) 1)) ?_
    refine qG (decide ((a0.Init.length : Int) > 4)) (Bool.eq_false_iff.2 hg2) ?_
    refine q1 (vs0 a0.Pol) ?_
    refine qG (decide ((a0.Init.length : Int) > 4)) (Bool.eq_false_iff.2 hg2) ?_
    refine stepC (r := .int .i64 r3) (ArgsOk.dt ArgsOk.nil') (c_ref05_Size hr3) ?_
    refine qG (decide ((a0.Init.length : Int) > 4)) (Bool.eq_false_iff.2 hg2) ?_
    refine q1 (vb (decide (r3 > 300))) ?_
    refine step (v := vb (decide (r3 > 300))) (st_pickF (b := decide ((a0.Init.length : Int) > 4)) rfl hg2 rfl) ?_
    refine q1 (vb (decide (r3 > 300))) ?_
    by_cases hg4 : decide (r3 > 300) = true
    ·
     replace hv := iteT hg4 hv
     refine qX (decide (r3 > 300)) (by rw [hg4]; decide) ?_
     refine qX (decide (r3 > 300)) (by rw [hg4]; decide) ?_
     refine qX (decide (r3 > 300)) (by rw [hg4]; decide) ?_
     refine qX (decide (r3 > 300)) (by rw [hg4]; decide) ?_
     refine step (v := vb true) (st_pickT (b := decide (r3 > 300)) rfl hg4 rfl) ?_
     refine q1 (vb true) ?_
     refine qX true (by decide) ?_
     refine qX true (by decide) ?_
     refine qX true (by decide) ?_
     refine qX true (by decide) ?_
     refine step (v := vb true) (st_pickT (b := true) rfl rfl rfl) ?_
     have hh := Option.some.inj hv
     subst hh
     exact nR []
    ·
     replace hv := iteF hg4 hv
     obtain ⟨r5, hr5, hv⟩ := bindE hv
     refine qG (decide (r3 > 300)) (Bool.eq_false_iff.2 hg4) ?_
     refine q1 (.d (.cptr (some 6) (eapi_Program a0) 1)) ?_
     refine qG (decide (r3 > 300)) (Bool.eq_false_iff.2 hg4) ?_
     refine q1 (vs0 a0.Pol) ?_
     refine qG (decide (r3 > 300)) (Bool.eq_false_iff.2 hg4) ?_
     refine stepC (r := .int .i64 r5) (ArgsOk.dt ArgsOk.nil') (c_ref05_Depth hr5) ?_
     refine qG (decide (r3 > 300)) (Bool.eq_false_iff.2 hg4) ?_
     refine q1 (vb (decide (r5 > 20))) ?_
     refine step (v := vb (decide (r5 > 20))) (st_pickF (b := decide (r3 > 300)) rfl hg4 rfl) ?_
     refine q1 (vb (decide (r5 > 20))) ?_
     by_cases hg6 : decide (r5 > 20) = true
     ·
      replace hv := iteT hg6 hv
      refine qX (decide (r5 > 20)) (by rw [hg6]; decide) ?_
      refine qX (decide (r5 > 20)) (by rw [hg6]; decide) ?_
      refine qX (decide (r5 > 20)) (by rw [hg6]; decide) ?_
      refine qX (decide (r5 > 20)) (by rw [hg6]; decide) ?_
      refine step (v := vb true) (st_pickT (b := decide (r5 > 20)) rfl hg6 rfl) ?_
      have hh := Option.some.inj hv
      subst hh
      exact nR []
     ·
      replace hv := iteF hg6 hv
      refine qG (decide (r5 > 20)) (Bool.eq_false_iff.2 hg6) ?_
      refine q1 (.d (.cptr (some 6) (eapi_Program a0) 5)) ?_
      refine qG (decide (r5 > 20)) (Bool.eq_false_iff.2 hg6) ?_
      refine q1 (vl2 a0.Rules) ?_
      refine qG (decide (r5 > 20)) (Bool.eq_false_iff.2 hg6) ?_
      refine step (v := vi (a0.Rules.length : Int)) (st_len (xs := a0.Rules) (e := eapi_Rule) rfl) ?_
      refine qG (decide (r5 > 20)) (Bool.eq_false_iff.2 hg6) ?_
      refine q1 (vb (decide ((a0.Rules.length : Int) > 24))) ?_
      refine step (v := vb (decide ((a0.Rules.length : Int) > 24))) (st_pickF (b := decide (r5 > 20)) rfl hg6 rfl) ?_
      have hh := Option.some.inj hv
      subst hh
      exact nR []
 by_cases hc9 : y7 = true
 ·
  replace h := iteT hc9 h
  refine NWp.condT (t := y7) rfl hc9 ?_
  refine NWp.opsJ ⟨tab [(2, vi 2)], stab [], 0⟩ ?_ ?_
  ·
   refine q1 (vi 2) ?_
   exact nR []
  have hh := Option.some.inj h
  subst hh
  refine NWp.ret ?_
  show FQ _ _ _ _
  exact FQ.mk1 (.inr rfl) (res_t (v := vi 2) rfl rfl) (RV.d trivial)
 ·
  replace h := iteF hc9 h
  refine NWp.condF (t := y7) rfl hc9 ?_
  refine NWp.skip ?_
  refine NWp.seq ?_
  obtain ⟨r10, hr10, h⟩ := bindE h
  refine NWp.opsJ ⟨tab [(1, vp1 a0), (39, vb (!r10))], stab [], 0⟩ ?_ ?_
  ·
   refine q1 (.d (.cptr (some 6) (eapi_Program a0) 1)) ?_
   refine q1 (vs0 a0.Pol) ?_
   refine q1 (vp1 a0) ?_
   refine q1 (vl3 a0.Init) ?_
   refine step (v := vi (a0.Init.length : Int)) (st_len (xs := a0.Init) (e := (D.int .u16)) rfl) ?_
   refine stepC (r := .bool r10) (ArgsOk.dt (ArgsOk.dt ArgsOk.nil')) (c_ref05_formed hr10) ?_
   refine q1 (vb (!r10)) ?_
   exact nR []
  by_cases hc11 : (!r10) = true
  ·
   replace h := iteT hc11 h
   refine NWp.condT (t := (!r10)) rfl hc11 ?_
   refine NWp.opsJ ⟨tab [(2, vi 11)], stab [], 0⟩ ?_ ?_
   ·
    refine q1 (vi 11) ?_
    exact nR []
   have hh := Option.some.inj h
   subst hh
   refine NWp.ret ?_
   show FQ _ _ _ _
   exact FQ.mk1 (.inr rfl) (res_t (v := vi 11) rfl rfl) (RV.d trivial)
  ·
   replace h := iteF hc11 h
   refine NWp.condF (t := (!r10)) rfl hc11 ?_
   refine NWp.skip ?_
   refine NWp.seq ?_
   refine NWp.opsJ ⟨tab [(1, vp1 a0), (3, vi 0)], stab [], 0⟩ ?_ ?_
   ·
    refine q1 (vi 0) ?_
    exact nR []
   obtain ⟨q33, hl, h⟩ := bindE h
   refine NWp.block ?_
   refine loop_forR (cntU (a0.Rules.length : Int)) (fun (i12 : Int) (qq : Unit) => ⟨tab [(1, vp1 a0), (3, vi i12)], stab [], 0⟩) 0 (fun (qq : Unit) => ⟨tab [], stab [], 0⟩) Low low_step (r := r) hl (by unfold Low; omega) ?_ ?_ ?_ ?_
   ·
    rintro i12 ⟨⟩ xr17 hinv15 hgo14 h
    show NWp _ _ _ _ _ ⟨tab [(1, vp1 a0), (3, vi i12)], stab [], 0⟩
    have hc16 : decide (i12 < (a0.Rules.length : Int)) = true := decide_eq_true hgo14
    refine NWp.seq ?_
    refine NWp.opsJ ⟨tab [(1, vp1 a0), (3, vi i12), (43, vi (a0.Rules.length : Int)), (44, vb (decide (i12 < (a0.Rules.length : Int))))], stab [], 0⟩ ?_ ?_
    ·
     refine q1 (vi i12) ?_
     refine q1 (.d (.cptr (some 6) (eapi_Program a0) 5)) ?_
     refine q1 (vl2 a0.Rules) ?_
     refine step (v := vi (a0.Rules.length : Int)) (st_len (xs := a0.Rules) (e := eapi_Rule) rfl) ?_
     refine q1 (vb (decide (i12 < (a0.Rules.length : Int)))) ?_
     exact nR []
    refine NWp.rng 43 rfl fun hB13 => ?_
    refine NWp.condT (t := decide (i12 < (a0.Rules.length : Int))) rfl hc16 ?_
    refine NWp.skip ?_
    refine NWp.seq ?_
    refine NWp.block ?_
    obtain ⟨x18, hx18, h⟩ := bindE h
    refine NWp.opsJ ⟨tab [(1, vp1 a0), (3, vi i12), (4, .ptr 0 0 0)], stab [(0, bv3 x18)], 1⟩ ?_ ?_
    ·
     refine q1 (.d (.cptr (some 6) (eapi_Program a0) 5)) ?_
     refine q1 (vl2 a0.Rules) ?_
     refine q1 (vi i12) ?_
     refine step (v := .d (.cptr (some 3) (eapi_Rule x18) 0)) (st_iaddr (xs := a0.Rules) (e := eapi_Rule) hx18 rfl rfl) ?_
     refine q1 (.d (eapi_Rule x18)) ?_
     refine step (v := .ptr 0 0 0) (σ' := (upd (stab []) 0 (some (.var [vl1 [], vl1 [], vl1 []])))) (n' := 1) rfl ?_
     refine step (v := V.undef) (σ' := (upd (upd (stab []) 0 (some (.var [vl1 [], vl1 [], vl1 []]))) 0 (some (bv3 x18)))) (n' := 1) rfl ?_
     exact nR [0]
    obtain ⟨y30, hv, h⟩ := bindE h
    refine NWp.opsJ ⟨tab [(1, vp1 a0), (3, vi i12), (101, vb y30)], stab [], 0⟩ ?_ ?_
    ·
     refine q1 (.ptr 0 0 0) ?_
     refine q1 (vl1 x18.When) ?_
     refine step (v := vi (x18.When.length : Int)) (st_len (xs := x18.When) (e := eapi_Pair) rfl) ?_
     refine q1 (vb (decide ((x18.When.length : Int) < 2))) ?_
     refine q1 (vb (decide ((x18.When.length : Int) < 2))) ?_
     by_cases hg19 : decide ((x18.When.length : Int) < 2) = true
     ·
      replace hv := iteT hg19 hv
      refine qX (decide ((x18.When.length : Int) < 2)) (by rw [hg19]; decide) ?_
      refine qX (decide ((x18.When.length : Int) < 2)) (by rw [hg19]; decide) ?_
      refine qX (decide ((x18.When.length : Int) < 2)) (by rw [hg19]; decide) ?_
      refine qX (decide ((x18.When.length : Int) < 2)) (by rw [hg19]; decide) ?_
      refine qX (decide ((x18.When.length : Int) < 2)) (by rw [hg19]; decide) ?_
      refine qX (decide ((x18.When.length : Int) < 2)) (by rw [hg19]; decide) ?_
      refine step (v := vb true) (st_pickT (b := decide ((x18.When.length : Int) < 2)) rfl hg19 rfl) ?_
      refine q1 (vb true) ?_
      refine qX true (by decide) ?_
      refine qX true (by decide) ?_
      refine qX true (by decide) ?_
      refine qX true (by decide) ?_
      refine qX true (by decide) ?_
      refine qX true (by decide) ?_
      refine step (v := vb true) (st_pickT (b := true) rfl rfl rfl) ?_
      refine q1 (vb true) ?_
      refine qX true (by decide) ?_
      refine qX true (by decide) ?_
      refine qX true (by decide) ?_
      refine qX true (by decide) ?_
      refine step (v := vb true) (st_pickT (b := true) rfl rfl rfl) ?_
      refine q1 (vb true) ?_
      refine qX true (by decide) ?_
      refine qX true (by decide) ?_
      refine qX true (by decide) ?_
      refine qX true (by decide) ?_
      refine qX true (by decide) ?_
      refine qX true (by decide) ?_
      refine qX true (by decide) ?_
      refine step (v := vb true) (st_pickT (b := true) rfl rfl rfl) ?_
      refine q1 (vb true) ?_
      refine qX true (by decide) ?_
      refine qX true (by decide) ?_
      refine qX true (by decide) ?_
      refine qX true (by decide) ?_
      refine qX true (by decide) ?_
      refine qX true (by decide) ?_
      refine qX true (by decide) ?_
      refine step (v := vb true) (st_pickT (b := true) rfl rfl rfl) ?_
      refine q1 (vb true) ?_
      refine qX true (by decide) ?_
      refine qX true (by decide) ?_
      refine qX true (by decide) ?_
      refine qX true (by decide) ?_
      refine step (v := vb true) (st_pickT (b := true) rfl rfl rfl) ?_
      have hh := Option.some.inj hv
      subst hh
      exact nR []
     ·
      replace hv := iteF hg19 hv
      obtain ⟨x20, hx20, hv⟩ := bindE hv
      refine qG (decide ((x18.When.length : Int) < 2)) (Bool.eq_false_iff.2 hg19) ?_
      refine q1 (.ptr 0 0 0) ?_
      refine qG (decide ((x18.When.length : Int) < 2)) (Bool.eq_false_iff.2 hg19) ?_
      refine q1 (vl1 x18.When) ?_
      refine qG (decide ((x18.When.length : Int) < 2)) (Bool.eq_false_iff.2 hg19) ?_
      refine step (v := vp2 x20) (st_iaddr (xs := x18.When) (e := eapi_Pair) hx20 rfl rfl) ?_
      refine qG (decide ((x18.When.length : Int) < 2)) (Bool.eq_false_iff.2 hg19) ?_
      refine q1 (vp2 x20) ?_
      refine qG (decide ((x18.When.length : Int) < 2)) (Bool.eq_false_iff.2 hg19) ?_
      refine q1 (vi x20.F) ?_
      refine qG (decide ((x18.When.length : Int) < 2)) (Bool.eq_false_iff.2 hg19) ?_
      refine q1 (vb (x20.F != 0)) ?_
      refine step (v := vb (x20.F != 0)) (st_pickF (b := decide ((x18.When.length : Int) < 2)) rfl hg19 rfl) ?_
      refine q1 (vb (x20.F != 0)) ?_
      by_cases hg21 : (x20.F != 0) = true
      ·
       replace hv := iteT hg21 hv
       refine qX (x20.F != 0) (by rw [hg21]; decide) ?_
       refine qX (x20.F != 0) (by rw [hg21]; decide) ?_
       refine qX (x20.F != 0) (by rw [hg21]; decide) ?_
       refine qX (x20.F != 0) (by rw [hg21]; decide) ?_
       refine qX (x20.F != 0) (by rw [hg21]; decide) ?_
       refine qX (x20.F != 0) (by rw [hg21]; decide) ?_
       refine step (v := vb true) (st_pickT (b := (x20.F != 0)) rfl hg21 rfl) ?_
       refine q1 (vb true) ?_
       refine qX true (by decide) ?_
       refine qX true (by decide) ?_
       refine qX true (by decide) ?_
       refine qX true (by decide) ?_
       refine step (v := vb true) (st_pickT (b := true) rfl rfl rfl) ?_
       refine q1 (vb true) ?_
       refine qX true (by decide) ?_
       refine qX true (by decide) ?_
       refine qX true (by decide) ?_
       refine qX true (by decide) ?_
       refine qX true (by decide) ?_
       refine qX true (by decide) ?_
       refine qX true (by decide) ?_
       refine step (v := vb true) (st_pickT (b := true) rfl rfl rfl) ?_
       refine q1 (vb true) ?_
       refine qX true (by decide) ?_
       refine qX true (by decide) ?_
       refine qX true (by decide) ?_
       refine qX true (by decide) ?_
       refine qX true (by decide) ?_
       refine qX true (by decide) ?_
       refine qX true (by decide) ?_
       refine step (v := vb true) (st_pickT (b := true) rfl rfl rfl) ?_
       refine q1 (vb true) ?_
       refine qX true (by decide) ?_
       refine qX true (by decide) ?_
       refine qX true (by decide) ?_
       refine qX true (by decide) ?_
       refine step (v := vb true) (st_pickT (b := true) rfl rfl rfl) ?_
       have hh := Option.some.inj hv
       subst hh
       exact nR []
      ·
       replace hv := iteF hg21 hv
       obtain ⟨x22, hx22, hv⟩ := bindE hv
       refine qG (x20.F != 0) (Bool.eq_false_iff.2 hg21) ?_
       refine q1 (.ptr 0 0 0) ?_
       refine qG (x20.F != 0) (Bool.eq_false_iff.2 hg21) ?_
       refine q1 (vl1 x18.When) ?_
       refine qG (x20.F != 0) (Bool.eq_false_iff.2 hg21) ?_
       refine step (v := vp2 x22) (st_iaddr (xs := x18.When) (e := eapi_Pair) hx22 rfl rfl) ?_
       refine qG (x20.F != 0) (Bool.eq_false_iff.2 hg21) ?_
       refine q1 (vp2 x22) ?_
       refine qG (x20.F != 0) (Bool.eq_false_iff.2 hg21) ?_
       refine q1 (vi x22.F) ?_
       refine qG (x20.F != 0) (Bool.eq_false_iff.2 hg21) ?_
       refine q1 (vb (x22.F != 1)) ?_
       refine step (v := vb (x22.F != 1)) (st_pickF (b := (x20.F != 0)) rfl hg21 rfl) ?_
       refine q1 (vb (x22.F != 1)) ?_
       by_cases hg23 : (x22.F != 1) = true
       ·
        replace hv := iteT hg23 hv
        refine qX (x22.F != 1) (by rw [hg23]; decide) ?_
        refine qX (x22.F != 1) (by rw [hg23]; decide) ?_
        refine qX (x22.F != 1) (by rw [hg23]; decide) ?_
        refine qX (x22.F != 1) (by rw [hg23]; decide) ?_
        refine step (v := vb true) (st_pickT (b := (x22.F != 1)) rfl hg23 rfl) ?_
        refine q1 (vb true) ?_
        refine qX true (by decide) ?_
        refine qX true (by decide) ?_
        refine qX true (by decide) ?_
        refine qX true (by decide) ?_
        refine qX true (by decide) ?_
        refine qX true (by decide) ?_
        refine qX true (by decide) ?_
        refine step (v := vb true) (st_pickT (b := true) rfl rfl rfl) ?_
        refine q1 (vb true) ?_
        refine qX true (by decide) ?_
        refine qX true (by decide) ?_
        refine qX true (by decide) ?_
        refine qX true (by decide) ?_
        refine qX true (by decide) ?_
        refine qX true (by decide) ?_
        refine qX true (by decide) ?_
        refine step (v := vb true) (st_pickT (b := true) rfl rfl rfl) ?_
        refine q1 (vb true) ?_
        refine qX true (by decide) ?_
        refine qX true (by decide) ?_
        refine qX true (by decide) ?_
        refine qX true (by decide) ?_
        refine step (v := vb true) (st_pickT (b := true) rfl rfl rfl) ?_
        have hh := Option.some.inj hv
        subst hh
        exact nR []
       ·
        replace hv := iteF hg23 hv
        obtain ⟨r24, hr24, hv⟩ := bindE hv
        refine qG (x22.F != 1) (Bool.eq_false_iff.2 hg23) ?_
        refine q1 (.ptr 0 0 0) ?_
        refine qG (x22.F != 1) (Bool.eq_false_iff.2 hg23) ?_
        refine q1 (vl1 x18.When) ?_
        refine qG (x22.F != 1) (Bool.eq_false_iff.2 hg23) ?_
        refine stepC (r := .bool r24) (ArgsOk.dt (ArgsOk.dt ArgsOk.nil')) (c_ref05_rising hr24) ?_
        refine qG (x22.F != 1) (Bool.eq_false_iff.2 hg23) ?_
        refine q1 (vb (!r24)) ?_
        refine step (v := vb (!r24)) (st_pickF (b := (x22.F != 1)) rfl hg23 rfl) ?_
        refine q1 (vb (!r24)) ?_
        by_cases hg25 : (!r24) = true
        ·
         replace hv := iteT hg25 hv
         refine qX (!r24) (by rw [hg25]; decide) ?_
         refine qX (!r24) (by rw [hg25]; decide) ?_
         refine qX (!r24) (by rw [hg25]; decide) ?_
         refine qX (!r24) (by rw [hg25]; decide) ?_
         refine qX (!r24) (by rw [hg25]; decide) ?_
         refine qX (!r24) (by rw [hg25]; decide) ?_
         refine qX (!r24) (by rw [hg25]; decide) ?_
         refine step (v := vb true) (st_pickT (b := (!r24)) rfl hg25 rfl) ?_
         refine q1 (vb true) ?_
         refine qX true (by decide) ?_
         refine qX true (by decide) ?_
         refine qX true (by decide) ?_
         refine qX true (by decide) ?_
         refine qX true (by decide) ?_
         refine qX true (by decide) ?_
         refine qX true (by decide) ?_
         refine step (v := vb true) (st_pickT (b := true) rfl rfl rfl) ?_
         refine q1 (vb true) ?_
         refine qX true (by decide) ?_
         refine qX true (by decide) ?_
         refine qX true (by decide) ?_
         refine qX true (by decide) ?_
         refine step (v := vb true) (st_pickT (b := true) rfl rfl rfl) ?_
         have hh := Option.some.inj hv
         subst hh
         exact nR []
        ·
         replace hv := iteF hg25 hv
         obtain ⟨r26, hr26, hv⟩ := bindE hv
         refine qG (!r24) (Bool.eq_false_iff.2 hg25) ?_
         refine q1 (.ptr 0 0 1) ?_
         refine qG (!r24) (Bool.eq_false_iff.2 hg25) ?_
         refine q1 (vl1 x18.Guard) ?_
         refine qG (!r24) (Bool.eq_false_iff.2 hg25) ?_
         refine q1 (vp1 a0) ?_
         refine qG (!r24) (Bool.eq_false_iff.2 hg25) ?_
         refine q1 (vl3 a0.Init) ?_
         refine qG (!r24) (Bool.eq_false_iff.2 hg25) ?_
         refine step (v := vi (a0.Init.length : Int)) (st_len (xs := a0.Init) (e := (D.int .u16)) rfl) ?_
         refine qG (!r24) (Bool.eq_false_iff.2 hg25) ?_
         refine stepC (r := .bool r26) (ArgsOk.dt (ArgsOk.dt ArgsOk.nil')) (c_ref05_rising hr26) ?_
         refine qG (!r24) (Bool.eq_false_iff.2 hg25) ?_
         refine q1 (vb (!r26)) ?_
         refine step (v := vb (!r26)) (st_pickF (b := (!r24)) rfl hg25 rfl) ?_
         refine q1 (vb (!r26)) ?_
         by_cases hg27 : (!r26) = true
         ·
          replace hv := iteT hg27 hv
          refine qX (!r26) (by rw [hg27]; decide) ?_
          refine qX (!r26) (by rw [hg27]; decide) ?_
          refine qX (!r26) (by rw [hg27]; decide) ?_
          refine qX (!r26) (by rw [hg27]; decide) ?_
          refine qX (!r26) (by rw [hg27]; decide) ?_
          refine qX (!r26) (by rw [hg27]; decide) ?_
          refine qX (!r26) (by rw [hg27]; decide) ?_
          refine step (v := vb true) (st_pickT (b := (!r26)) rfl hg27 rfl) ?_
          refine q1 (vb true) ?_
          refine qX true (by decide) ?_
          refine qX true (by decide) ?_
          refine qX true (by decide) ?_
          refine qX true (by decide) ?_
          refine step (v := vb true) (st_pickT (b := true) rfl rfl rfl) ?_
          have hh := Option.some.inj hv
          subst hh
          exact nR []
         ·
          replace hv := iteF hg27 hv
          obtain ⟨r28, hr28, hv⟩ := bindE hv
          refine qG (!r26) (Bool.eq_false_iff.2 hg27) ?_
          refine q1 (.ptr 0 0 2) ?_
          refine qG (!r26) (Bool.eq_false_iff.2 hg27) ?_
          refine q1 (vl1 x18.Then) ?_
          refine qG (!r26) (Bool.eq_false_iff.2 hg27) ?_
          refine q1 (vp1 a0) ?_
          refine qG (!r26) (Bool.eq_false_iff.2 hg27) ?_
          refine q1 (vl3 a0.Init) ?_
          refine qG (!r26) (Bool.eq_false_iff.2 hg27) ?_
          refine step (v := vi (a0.Init.length : Int)) (st_len (xs := a0.Init) (e := (D.int .u16)) rfl) ?_
          refine qG (!r26) (Bool.eq_false_iff.2 hg27) ?_
          refine stepC (r := .bool r28) (ArgsOk.dt (ArgsOk.dt ArgsOk.nil')) (c_ref05_rising hr28) ?_
          refine qG (!r26) (Bool.eq_false_iff.2 hg27) ?_
          refine q1 (vb (!r28)) ?_
          refine step (v := vb (!r28)) (st_pickF (b := (!r26)) rfl hg27 rfl) ?_
          refine q1 (vb (!r28)) ?_
          by_cases hg29 : (!r28) = true
          ·
           replace hv := iteT hg29 hv
           refine qX (!r28) (by rw [hg29]; decide) ?_
           refine qX (!r28) (by rw [hg29]; decide) ?_
           refine qX (!r28) (by rw [hg29]; decide) ?_
           refine qX (!r28) (by rw [hg29]; decide) ?_
           refine step (v := vb true) (st_pickT (b := (!r28)) rfl hg29 rfl) ?_
           have hh := Option.some.inj hv
           subst hh
           exact nR []
          ·
           replace hv := iteF hg29 hv
           refine qG (!r28) (Bool.eq_false_iff.2 hg29) ?_
           refine q1 (.ptr 0 0 2) ?_
           refine qG (!r28) (Bool.eq_false_iff.2 hg29) ?_
           refine q1 (vl1 x18.Then) ?_
           refine qG (!r28) (Bool.eq_false_iff.2 hg29) ?_
           refine step (v := vi (x18.Then.length : Int)) (st_len (xs := x18.Then) (e := eapi_Pair) rfl) ?_
           refine qG (!r28) (Bool.eq_false_iff.2 hg29) ?_
           refine q1 (vb ((x18.Then.length : Int) == 0)) ?_
           refine step (v := vb ((x18.Then.length : Int) == 0)) (st_pickF (b := (!r28)) rfl hg29 rfl) ?_
           have hh := Option.some.inj hv
           subst hh
           exact nR []
    by_cases hc32 : y30 = true
    ·
     replace h := iteT hc32 h
     refine NWp.condT (t := y30) rfl hc32 ?_
     refine NWp.opsJ ⟨tab [(2, vi 11)], stab [], 0⟩ ?_ ?_
     ·
      refine q1 (vi 11) ?_
      exact nR []
     obtain ⟨r33, kr33, hr⟩ := mapE (o := some 11) (g := Br.ret) h
     subst hr
     have h := kr33
     have hh := Option.some.inj h
     subst hh
     refine NWp.ret ?_
     refine And.intro (fun hn => nomatch hn) ?_
     intro hq
     have hq := hq.symm
     subst hq
     show FQ _ _ _ _
     exact FQ.mk1 (.inr rfl) (res_t (v := vi 11) rfl rfl) (RV.d trivial)
    ·
     replace h := iteF hc32 h
     refine NWp.condF (t := y30) rfl hc32 ?_
     refine NWp.skip ?_
     have hh := Option.some.inj h
     subst hh
     refine NWp.opsE ⟨tab [(1, vp1 a0), (3, vi (i12 + 1))], stab [], 0⟩ ?_ ?_
     ·
      refine q1 (vi i12) ?_
      refine step (v := vi (i12 + 1)) (st_inc (inc_ok hinv15 hgo14 hB13) rfl rfl) ?_
      refine q1 (vi (i12 + 1)) ?_
      exact nR []
     exact And.intro rfl rfl
   ·
    rintro i12 ⟨⟩ hinv15 hgo14
    show NWp _ _ _ _ _ ⟨tab [(1, vp1 a0), (3, vi i12)], stab [], 0⟩
    have hc16 : ¬ (decide (i12 < (a0.Rules.length : Int)) = true) := fun hq => hgo14 (of_decide_eq_true hq)
    refine NWp.seq ?_
    refine NWp.opsJ ⟨tab [(1, vp1 a0), (3, vi i12), (44, vb (decide (i12 < (a0.Rules.length : Int))))], stab [], 0⟩ ?_ ?_
    ·
     refine q1 (vi i12) ?_
     refine q1 (.d (.cptr (some 6) (eapi_Program a0) 5)) ?_
     refine q1 (vl2 a0.Rules) ?_
     refine step (v := vi (a0.Rules.length : Int)) (st_len (xs := a0.Rules) (e := eapi_Rule) rfl) ?_
     refine q1 (vb (decide (i12 < (a0.Rules.length : Int)))) ?_
     exact nR []
    refine NWp.condF (t := decide (i12 < (a0.Rules.length : Int))) rfl hc16 ?_
    refine NWp.norm (s0 := ⟨tab [], stab [], 0⟩) (nr []) ?_
    refine NWp.exit ?_
    exact And.intro rfl rfl
   ·
    intro r' hq
    subst hq
    exact Option.some.inj h
   rintro ⟨⟩ rfl
   refine NWp.opsJ ⟨tab [(2, vi 0)], stab [], 0⟩ ?_ ?_
   ·
    refine q1 (vi 0) ?_
    exact nR []
   have hh := Option.some.inj h
   subst hh
   refine NWp.ret ?_
   show FQ _ _ _ _
   exact FQ.mk1 (.inr rfl) (res_t (v := vi 0) rfl rfl) (RV.d trivial)

theorem c_ref07_Right {a0 : api_Pol} {r : Bool} (h : ref07_Right a0 = some r) : PCall Try.prog 40 [uapi_Pol a0] (.bool r) := by
 refine PCall.introN ok40 (show 1 ≤ 8 by decide) ?_
 refine NWp.norm (s0 := ⟨tab [(0, vs0 a0)], stab [], 0⟩) (nr []) ?_
 refine NWp.opsJ ⟨tab [(1, vp0 a0)], stab [], 0⟩ ?_ ?_
 ·
  refine q1 (vp0 a0) ?_
  refine q1 (vb false) ?_
  exact nR []
 obtain ⟨l1, hl1, h⟩ := bindE h
 obtain ⟨r2, hr2, h⟩ := bindE h
 refine NWp.opsJ ⟨tab [(2, vb (r2 == 0))], stab [], 0⟩ ?_ ?_
 ·
  refine step (v := .loc 0 0 l1.length) (σ' := (upd (stab []) 0 (some (.lst false none (List.map (D.int .u16) l1))))) (n' := 1) (st_mkF (e := (D.int .u16)) (z := 0) hl1 rfl rfl (gmk_le hl1)) ?_
  refine q1 (vs0 a0) ?_
  refine q1 (.agg [.loc 0 0 l1.length, vi a0.Op, vi a0.F, vh a0.N, vl0 a0.Kids, vl2 []]) ?_
  refine stepC (r := .int .i64 r2) (ArgsOk.vw (va_agg (optC (vc_l (xs := l1) (e := (D.int .u16)) rfl rfl) (optC vc_d (optC vc_d (optC vc_d (optC vc_d (optC vc_d optN))))))) (Sub.aggs (by exact ⟨.refl _, .refl _, .refl _, .refl _, .refl _, .refl _, trivial⟩)) ArgsOk.nil') (c_ref05_Check hr2) ?_
  refine q1 (vb (r2 == 0)) ?_
  refine q1 (vb (r2 == 0)) ?_
  exact nR []
 have hh := Option.some.inj h
 subst hh
 refine NWp.ret ?_
 show FQ _ _ _ _
 exact FQ.mk1 (.inr rfl) (res_t (v := vb (r2 == 0)) rfl rfl) (RV.d trivial)

theorem c_ref28_cut {a0 : (List api_Pol)} {a1 : Int} {r : (List api_Pol)} (h : ref28_cut a0 a1 = some r) : PCall Try.prog 109 [eL (some 4) eapi_Pol a0, .int .i64 a1] (eL (some 4) eapi_Pol r) := by
 refine PCall.introN ok109 (show 2 ≤ 17 by decide) ?_
 refine NWp.norm (s0 := ⟨tab [(0, vl0 a0), (1, vi a1)], stab [], 0⟩) (nr []) ?_
 refine NWp.opsJ ⟨tab [(0, vl0 a0), (1, vi a1)], stab [], 0⟩ ?_ ?_
 ·
  refine q1 (vl0 ([] : List api_Pol)) ?_
  exact nR []
 refine NWp.opsJ ⟨tab [(0, vl0 a0), (1, vi a1), (5, .d (.nils))], stab [], 0⟩ ?_ ?_
 ·
  refine q1 (.d (.nils)) ?_
  exact nR []
 obtain ⟨l1, hl1, h⟩ := bindE h
 obtain ⟨l2, hl2, h⟩ := bindE h
 refine NWp.opsJ ⟨tab [(0, vl0 a0), (1, vi a1), (5, .loc 0 0 l2.length)], stab [(0, .lst false (some 4) (List.map eapi_Pol l2))], 1⟩ ?_ ?_
 ·
  refine q1 (.d (.nils)) ?_
  refine q1 (vl0 a0) ?_
  refine q1 (vi a1) ?_
  refine step (v := vl0 l1) (st_slc (xs := a0) (e := eapi_Pol) hl1 rfl rfl ⟨_, rfl⟩) ?_
  refine step (v := .loc 0 0 l2.length) (σ' := (upd (stab []) 0 (some (.lst false (some 4) (List.map eapi_Pol l2))))) (n' := 1) (st_appN (ys := l1) (e := eapi_Pol) hl2 rfl (src_v (xs := l1) (e := eapi_Pol) rfl)) ?_
  refine q1 (.loc 0 0 l2.length) ?_
  exact nR [0]
 obtain ⟨l3, hl3, h⟩ := bindE h
 obtain ⟨l4, hl4, h⟩ := bindE h
 refine NWp.opsJ ⟨tab [(4, .loc 0 0 l4.length)], stab [(0, .lst false (some 4) (List.map eapi_Pol l4))], 1⟩ ?_ ?_
 ·
  refine q1 (.loc 0 0 l2.length) ?_
  refine q1 (vl0 a0) ?_
  refine q1 (vi a1) ?_
  refine q1 (vi (IntKind.i64.wrap (a1 + 1))) ?_
  refine step (v := vl0 l3) (st_slc (xs := a0) (e := eapi_Pol) hl3 rfl ⟨_, rfl⟩ rfl) ?_
  refine step (v := .loc 1 0 l4.length) (σ' := (upd (upd (stab [(0, .lst false (some 4) (List.map eapi_Pol l2))]) 0 none) 1 (some (.lst false (some 4) (List.map eapi_Pol l4))))) (n' := 2) (st_app (xs := l2) (ys := l3) (e := eapi_Pol) hl4 rfl rfl rfl (src_v (xs := l3) (e := eapi_Pol) rfl)) ?_
  refine q1 (.loc 1 0 l4.length) ?_
  exact nR [1]
 have hh := Option.some.inj h
 subst hh
 refine NWp.ret ?_
 show FQ _ _ _ _
 exact FQ.mk1 (.inr rfl) (res_t (v := .loc 0 0 l4.length) rfl rfl) (RV.loc (xs := l4) (e := eapi_Pol) rfl rfl trivial)

theorem c_ref28_pair {a0 : api_Pol} {a1 : api_Pol} {r : Int} (h : ref28_pair a0 a1 = some r) : PCall Try.prog 110 [uapi_Pol a0, uapi_Pol a1] (.int .i64 r) := by
 refine PCall.introN ok110 (show 2 ≤ 78 by decide) ?_
 refine NWp.norm (s0 := ⟨tab [(0, vs0 a0), (1, vs0 a1)], stab [], 0⟩) (nr []) ?_
 refine NWp.opsJ ⟨tab [(2, vp0 a0), (3, vp0 a1)], stab [], 0⟩ ?_ ?_
 ·
  refine q1 (vp0 a0) ?_
  refine q1 (vp0 a1) ?_
  refine q1 (vi 0) ?_
  exact nR []
 refine NWp.opsJ ⟨tab [(2, vp0 a0), (3, vp0 a1), (5, vb (if (a0.Op == 2) then ((a0.Op == a1.Op) && (a0.F == a1.F)) else ((a0.Op == 3) && ((a0.Op == a1.Op) && (a0.F == a1.F)))))], stab [], 0⟩ ?_ ?_
 ·
  refine q1 (vp0 a0) ?_
  refine q1 (vi a0.Op) ?_
  refine q1 (vb (a0.Op == 2)) ?_
  refine q1 (vb (a0.Op == 2)) ?_
  by_cases hg1 : (a0.Op == 2) = true
  ·
   refine qX (a0.Op == 2) (by rw [hg1]; decide) ?_
   refine qX (a0.Op == 2) (by rw [hg1]; decide) ?_
   refine qX (a0.Op == 2) (by rw [hg1]; decide) ?_
   refine step (v := vb true) (st_pickT (b := (a0.Op == 2)) rfl hg1 rfl) ?_
   refine q1 (vb true) ?_
   refine qG true rfl ?_
   refine q1 (vp0 a0) ?_
   refine qG true rfl ?_
   refine q1 (vi a0.Op) ?_
   refine qG true rfl ?_
   refine q1 (vp0 a1) ?_
   refine qG true rfl ?_
   refine q1 (vi a1.Op) ?_
   refine qG true rfl ?_
   refine q1 (vb (a0.Op == a1.Op)) ?_
   refine step (v := vb (a0.Op == a1.Op)) (st_pickT (b := true) rfl rfl rfl) ?_
   refine q1 (vb (a0.Op == a1.Op)) ?_
   by_cases hg2 : (a0.Op == a1.Op) = true
   ·
    refine qG (a0.Op == a1.Op) hg2 ?_
    refine q1 (.d (.cptr (some 4) (uapi_Pol a0) 1)) ?_
    refine qG (a0.Op == a1.Op) hg2 ?_
    refine q1 (vi a0.F) ?_
    refine qG (a0.Op == a1.Op) hg2 ?_
    refine q1 (.d (.cptr (some 4) (uapi_Pol a1) 1)) ?_
    refine qG (a0.Op == a1.Op) hg2 ?_
    refine q1 (vi a1.F) ?_
    refine qG (a0.Op == a1.Op) hg2 ?_
    refine q1 (vb (a0.F == a1.F)) ?_
    refine step (v := vb (a0.F == a1.F)) (st_pickT (b := (a0.Op == a1.Op)) rfl hg2 rfl) ?_
    refine q1 (vb (a0.F == a1.F)) ?_
    exact RunOps.nil' (nm [] ⟨.d _, .d _, .eq (by first | (simp [hg1, hg2]; done) | (simp_all; done) | grind), trivial⟩ trivial)
   ·
    refine qX (a0.Op == a1.Op) hg2 ?_
    refine qX (a0.Op == a1.Op) hg2 ?_
    refine qX (a0.Op == a1.Op) hg2 ?_
    refine qX (a0.Op == a1.Op) hg2 ?_
    refine qX (a0.Op == a1.Op) hg2 ?_
    refine step (v := vb false) (st_pickF (b := (a0.Op == a1.Op)) rfl hg2 rfl) ?_
    refine q1 (vb false) ?_
    exact RunOps.nil' (nm [] ⟨.d _, .d _, .eq (by first | (simp [hg1, hg2]; done) | (simp_all; done) | grind), trivial⟩ trivial)
  ·
   refine qG (a0.Op == 2) (Bool.eq_false_iff.2 hg1) ?_
   refine q1 (vp0 a0) ?_
   refine qG (a0.Op == 2) (Bool.eq_false_iff.2 hg1) ?_
   refine q1 (vi a0.Op) ?_
   refine qG (a0.Op == 2) (Bool.eq_false_iff.2 hg1) ?_
   refine q1 (vb (a0.Op == 3)) ?_
   refine step (v := vb (a0.Op == 3)) (st_pickF (b := (a0.Op == 2)) rfl hg1 rfl) ?_
   refine q1 (vb (a0.Op == 3)) ?_
   by_cases hg3 : (a0.Op == 3) = true
   ·
    refine qG (a0.Op == 3) hg3 ?_
    refine q1 (vp0 a0) ?_
    refine qG (a0.Op == 3) hg3 ?_
    refine q1 (vi a0.Op) ?_
    refine qG (a0.Op == 3) hg3 ?_
    refine q1 (vp0 a1) ?_
    refine qG (a0.Op == 3) hg3 ?_
    refine q1 (vi a1.Op) ?_
    refine qG (a0.Op == 3) hg3 ?_
    refine q1 (vb (a0.Op == a1.Op)) ?_
    refine step (v := vb (a0.Op == a1.Op)) (st_pickT (b := (a0.Op == 3)) rfl hg3 rfl) ?_
    refine q1 (vb (a0.Op == a1.Op)) ?_
    by_cases hg4 : (a0.Op == a1.Op) = true
    ·
     refine qG (a0.Op == a1.Op) hg4 ?_
     refine q1 (.d (.cptr (some 4) (uapi_Pol a0) 1)) ?_
     refine qG (a0.Op == a1.Op) hg4 ?_
     refine q1 (vi a0.F) ?_
     refine qG (a0.Op == a1.Op) hg4 ?_
     refine q1 (.d (.cptr (some 4) (uapi_Pol a1) 1)) ?_
     refine qG (a0.Op == a1.Op) hg4 ?_
     refine q1 (vi a1.F) ?_
     refine qG (a0.Op == a1.Op) hg4 ?_
     refine q1 (vb (a0.F == a1.F)) ?_
     refine step (v := vb (a0.F == a1.F)) (st_pickT (b := (a0.Op == a1.Op)) rfl hg4 rfl) ?_
     refine q1 (vb (a0.F == a1.F)) ?_
     exact RunOps.nil' (nm [] ⟨.d _, .d _, .eq (by first | (simp [hg1, hg3, hg4]; done) | (simp_all; done) | grind), trivial⟩ trivial)
    ·
     refine qX (a0.Op == a1.Op) hg4 ?_
     refine qX (a0.Op == a1.Op) hg4 ?_
     refine qX (a0.Op == a1.Op) hg4 ?_
     refine qX (a0.Op == a1.Op) hg4 ?_
     refine qX (a0.Op == a1.Op) hg4 ?_
     refine step (v := vb false) (st_pickF (b := (a0.Op == a1.Op)) rfl hg4 rfl) ?_
     refine q1 (vb false) ?_
     exact RunOps.nil' (nm [] ⟨.d _, .d _, .eq (by first | (simp [hg1, hg3, hg4]; done) | (simp_all; done) | grind), trivial⟩ trivial)
   ·
    refine qX (a0.Op == 3) hg3 ?_
    refine qX (a0.Op == 3) hg3 ?_
    refine qX (a0.Op == 3) hg3 ?_
    refine qX (a0.Op == 3) hg3 ?_
    refine qX (a0.Op == 3) hg3 ?_
    refine step (v := vb false) (st_pickF (b := (a0.Op == 3)) rfl hg3 rfl) ?_
    refine q1 (vb false) ?_
    refine qX false (by decide) ?_
    refine qX false (by decide) ?_
    refine qX false (by decide) ?_
    refine qX false (by decide) ?_
    refine qX false (by decide) ?_
    refine step (v := vb false) (st_pickF (b := false) rfl (by decide) rfl) ?_
    refine q1 (vb false) ?_
    exact RunOps.nil' (nm [] ⟨.d _, .d _, .eq (by first | (simp [hg1, hg3]; done) | (simp_all; done) | grind), trivial⟩ trivial)
 refine NWp.seq ?_
 refine NWp.opsJ ⟨tab [(2, vp0 a0), (3, vp0 a1), (5, vb (if (a0.Op == 2) then ((a0.Op == a1.Op) && (a0.F == a1.F)) else ((a0.Op == 3) && ((a0.Op == a1.Op) && (a0.F == a1.F))))), (35, vb ((if (a0.Op == 2) then ((a0.Op == a1.Op) && (a0.F == a1.F)) else ((a0.Op == 3) && ((a0.Op == a1.Op) && (a0.F == a1.F)))) && (a0.N == a1.N)))], stab [], 0⟩ ?_ ?_
 ·
  refine q1 (vb (if (a0.Op == 2) then ((a0.Op == a1.Op) && (a0.F == a1.F)) else ((a0.Op == 3) && ((a0.Op == a1.Op) && (a0.F == a1.F))))) ?_
  refine q1 (vb (if (a0.Op == 2) then ((a0.Op == a1.Op) && (a0.F == a1.F)) else ((a0.Op == 3) && ((a0.Op == a1.Op) && (a0.F == a1.F))))) ?_
  by_cases hg5 : (if (a0.Op == 2) then ((a0.Op == a1.Op) && (a0.F == a1.F)) else ((a0.Op == 3) && ((a0.Op == a1.Op) && (a0.F == a1.F)))) = true
  ·
   refine qG (if (a0.Op == 2) then ((a0.Op == a1.Op) && (a0.F == a1.F)) else ((a0.Op == 3) && ((a0.Op == a1.Op) && (a0.F == a1.F)))) hg5 ?_
   refine q1 (.d (.cptr (some 4) (uapi_Pol a0) 2)) ?_
   refine qG (if (a0.Op == 2) then ((a0.Op == a1.Op) && (a0.F == a1.F)) else ((a0.Op == 3) && ((a0.Op == a1.Op) && (a0.F == a1.F)))) hg5 ?_
   refine q1 (vh a0.N) ?_
   refine qG (if (a0.Op == 2) then ((a0.Op == a1.Op) && (a0.F == a1.F)) else ((a0.Op == 3) && ((a0.Op == a1.Op) && (a0.F == a1.F)))) hg5 ?_
   refine q1 (.d (.cptr (some 4) (uapi_Pol a1) 2)) ?_
   refine qG (if (a0.Op == 2) then ((a0.Op == a1.Op) && (a0.F == a1.F)) else ((a0.Op == 3) && ((a0.Op == a1.Op) && (a0.F == a1.F)))) hg5 ?_
   refine q1 (vh a1.N) ?_
   refine qG (if (a0.Op == 2) then ((a0.Op == a1.Op) && (a0.F == a1.F)) else ((a0.Op == 3) && ((a0.Op == a1.Op) && (a0.F == a1.F)))) hg5 ?_
   refine q1 (vb (a0.N == a1.N)) ?_
   refine step (v := vb (a0.N == a1.N)) (st_pickT (b := (if (a0.Op == 2) then ((a0.Op == a1.Op) && (a0.F == a1.F)) else ((a0.Op == 3) && ((a0.Op == a1.Op) && (a0.F == a1.F))))) rfl hg5 rfl) ?_
   exact RunOps.nil' (nm [] ⟨.d _, .d _, .d _, .eq (by first | (simp [hg5]; done) | (simp_all; done) | grind), trivial⟩ trivial)
  ·
   refine qX (if (a0.Op == 2) then ((a0.Op == a1.Op) && (a0.F == a1.F)) else ((a0.Op == 3) && ((a0.Op == a1.Op) && (a0.F == a1.F)))) hg5 ?_
   refine qX (if (a0.Op == 2) then ((a0.Op == a1.Op) && (a0.F == a1.F)) else ((a0.Op == 3) && ((a0.Op == a1.Op) && (a0.F == a1.F)))) hg5 ?_
   refine qX (if (a0.Op == 2) then ((a0.Op == a1.Op) && (a0.F == a1.F)) else ((a0.Op == 3) && ((a0.Op == a1.Op) && (a0.F == a1.F)))) hg5 ?_
   refine qX (if (a0.Op == 2) then ((a0.Op == a1.Op) && (a0.F == a1.F)) else ((a0.Op == 3) && ((a0.Op == a1.Op) && (a0.F == a1.F)))) hg5 ?_
   refine qX (if (a0.Op == 2) then ((a0.Op == a1.Op) && (a0.F == a1.F)) else ((a0.Op == 3) && ((a0.Op == a1.Op) && (a0.F == a1.F)))) hg5 ?_
   refine step (v := vb false) (st_pickF (b := (if (a0.Op == 2) then ((a0.Op == a1.Op) && (a0.F == a1.F)) else ((a0.Op == 3) && ((a0.Op == a1.Op) && (a0.F == a1.F))))) rfl hg5 rfl) ?_
   exact RunOps.nil' (nm [] ⟨.d _, .d _, .d _, .eq (by first | (simp [hg5]; done) | (simp_all; done) | grind), trivial⟩ trivial)
 by_cases hc6 : ((if (a0.Op == 2) then ((a0.Op == a1.Op) && (a0.F == a1.F)) else ((a0.Op == 3) && ((a0.Op == a1.Op) && (a0.F == a1.F)))) && (a0.N == a1.N)) = true
 ·
  replace h := iteT hc6 h
  refine NWp.condT (t := ((if (a0.Op == 2) then ((a0.Op == a1.Op) && (a0.F == a1.F)) else ((a0.Op == 3) && ((a0.Op == a1.Op) && (a0.F == a1.F)))) && (a0.N == a1.N))) rfl hc6 ?_
  refine NWp.opsJ ⟨tab [(4, vi 2)], stab [], 0⟩ ?_ ?_
  ·
   refine q1 (vi 2) ?_
   exact nR []
  have hh := Option.some.inj h
  subst hh
  refine NWp.ret ?_
  show FQ _ _ _ _
  exact FQ.mk1 (.inr rfl) (res_t (v := vi 2) rfl rfl) (RV.d trivial)
 ·
  replace h := iteF hc6 h
  refine NWp.condF (t := ((if (a0.Op == 2) then ((a0.Op == a1.Op) && (a0.F == a1.F)) else ((a0.Op == 3) && ((a0.Op == a1.Op) && (a0.F == a1.F)))) && (a0.N == a1.N))) rfl hc6 ?_
  refine NWp.skip ?_
  refine NWp.seq ?_
  refine NWp.opsJ ⟨tab [(2, vp0 a0), (3, vp0 a1), (36, vb (if (a0.Op == 2) then ((a0.Op == a1.Op) && (a0.F == a1.F)) else ((a0.Op == 3) && ((a0.Op == a1.Op) && (a0.F == a1.F)))))], stab [], 0⟩ ?_ ?_
  ·
   refine q1 (vb (if (a0.Op == 2) then ((a0.Op == a1.Op) && (a0.F == a1.F)) else ((a0.Op == 3) && ((a0.Op == a1.Op) && (a0.F == a1.F))))) ?_
   exact nR []
  by_cases hc7 : (if (a0.Op == 2) then ((a0.Op == a1.Op) && (a0.F == a1.F)) else ((a0.Op == 3) && ((a0.Op == a1.Op) && (a0.F == a1.F)))) = true
  ·
   replace h := iteT hc7 h
   refine NWp.condT (t := (if (a0.Op == 2) then ((a0.Op == a1.Op) && (a0.F == a1.F)) else ((a0.Op == 3) && ((a0.Op == a1.Op) && (a0.F == a1.F))))) rfl hc7 ?_
   refine NWp.opsJ ⟨tab [(4, vi 3)], stab [], 0⟩ ?_ ?_
   ·
    refine q1 (vi 3) ?_
    exact nR []
   have hh := Option.some.inj h
   subst hh
   refine NWp.ret ?_
   show FQ _ _ _ _
   exact FQ.mk1 (.inr rfl) (res_t (v := vi 3) rfl rfl) (RV.d trivial)
  ·
   replace h := iteF hc7 h
   refine NWp.condF (t := (if (a0.Op == 2) then ((a0.Op == a1.Op) && (a0.F == a1.F)) else ((a0.Op == 3) && ((a0.Op == a1.Op) && (a0.F == a1.F))))) rfl hc7 ?_
   refine NWp.skip ?_
   refine NWp.seq ?_
   refine NWp.opsJ ⟨tab [(2, vp0 a0), (3, vp0 a1), (41, vb (a0.F != a1.F))], stab [], 0⟩ ?_ ?_
   ·
    refine q1 (.d (.cptr (some 4) (uapi_Pol a0) 1)) ?_
    refine q1 (vi a0.F) ?_
    refine q1 (.d (.cptr (some 4) (uapi_Pol a1) 1)) ?_
    refine q1 (vi a1.F) ?_
    refine q1 (vb (a0.F != a1.F)) ?_
    exact nR []
   by_cases hc8 : (a0.F != a1.F) = true
   ·
    replace h := iteT hc8 h
    refine NWp.condT (t := (a0.F != a1.F)) rfl hc8 ?_
    refine NWp.opsJ ⟨tab [(4, vi 0)], stab [], 0⟩ ?_ ?_
    ·
     refine q1 (vi 0) ?_
     exact nR []
    have hh := Option.some.inj h
    subst hh
    refine NWp.ret ?_
    show FQ _ _ _ _
    exact FQ.mk1 (.inr rfl) (res_t (v := vi 0) rfl rfl) (RV.d trivial)
   ·
    replace h := iteF hc8 h
    refine NWp.condF (t := (a0.F != a1.F)) rfl hc8 ?_
    refine NWp.skip ?_
    refine NWp.seq ?_
    refine NWp.opsJ ⟨tab [(2, vp0 a0), (3, vp0 a1), (49, vb ((a0.Op == 5) && (a1.Op == 5)))], stab [], 0⟩ ?_ ?_
    ·
     refine q1 (vp0 a0) ?_
     refine q1 (vi a0.Op) ?_
     refine q1 (vb (a0.Op == 5)) ?_
     refine q1 (vb (a0.Op == 5)) ?_
     by_cases hg9 : (a0.Op == 5) = true
     ·
      refine qG (a0.Op == 5) hg9 ?_
      refine q1 (vp0 a1) ?_
      refine qG (a0.Op == 5) hg9 ?_
      refine q1 (vi a1.Op) ?_
      refine qG (a0.Op == 5) hg9 ?_
      refine q1 (vb (a1.Op == 5)) ?_
      refine step (v := vb (a1.Op == 5)) (st_pickT (b := (a0.Op == 5)) rfl hg9 rfl) ?_
      exact RunOps.nil' (nm [] ⟨.d _, .d _, .eq (by first | (simp [hg9]; done) | (simp_all; done) | grind), trivial⟩ trivial)
     ·
      refine qX (a0.Op == 5) hg9 ?_
      refine qX (a0.Op == 5) hg9 ?_
      refine qX (a0.Op == 5) hg9 ?_
      refine step (v := vb false) (st_pickF (b := (a0.Op == 5)) rfl hg9 rfl) ?_
      exact RunOps.nil' (nm [] ⟨.d _, .d _, .eq (by first | (simp [hg9]; done) | (simp_all; done) | grind), trivial⟩ trivial)
    by_cases hc10 : ((a0.Op == 5) && (a1.Op == 5)) = true
    ·
     replace h := iteT hc10 h
     refine NWp.condT (t := ((a0.Op == 5) && (a1.Op == 5))) rfl hc10 ?_
     refine NWp.opsJ ⟨tab [(4, vi 1)], stab [], 0⟩ ?_ ?_
     ·
      refine q1 (vi 1) ?_
      exact nR []
     have hh := Option.some.inj h
     subst hh
     refine NWp.ret ?_
     show FQ _ _ _ _
     exact FQ.mk1 (.inr rfl) (res_t (v := vi 1) rfl rfl) (RV.d trivial)
    ·
     replace h := iteF hc10 h
     refine NWp.condF (t := ((a0.Op == 5) && (a1.Op == 5))) rfl hc10 ?_
     refine NWp.skip ?_
     refine NWp.seq ?_
     refine NWp.opsJ ⟨tab [(2, vp0 a0), (3, vp0 a1), (57, vb ((a0.Op == 5) && (a1.Op == 2)))], stab [], 0⟩ ?_ ?_
     ·
      refine q1 (vp0 a0) ?_
      refine q1 (vi a0.Op) ?_
      refine q1 (vb (a0.Op == 5)) ?_
      refine q1 (vb (a0.Op == 5)) ?_
      by_cases hg11 : (a0.Op == 5) = true
      ·
       refine qG (a0.Op == 5) hg11 ?_
       refine q1 (vp0 a1) ?_
       refine qG (a0.Op == 5) hg11 ?_
       refine q1 (vi a1.Op) ?_
       refine qG (a0.Op == 5) hg11 ?_
       refine q1 (vb (a1.Op == 2)) ?_
       refine step (v := vb (a1.Op == 2)) (st_pickT (b := (a0.Op == 5)) rfl hg11 rfl) ?_
       exact RunOps.nil' (nm [] ⟨.d _, .d _, .eq (by first | (simp [hg11]; done) | (simp_all; done) | grind), trivial⟩ trivial)
      ·
       refine qX (a0.Op == 5) hg11 ?_
       refine qX (a0.Op == 5) hg11 ?_
       refine qX (a0.Op == 5) hg11 ?_
       refine step (v := vb false) (st_pickF (b := (a0.Op == 5)) rfl hg11 rfl) ?_
       exact RunOps.nil' (nm [] ⟨.d _, .d _, .eq (by first | (simp [hg11]; done) | (simp_all; done) | grind), trivial⟩ trivial)
     by_cases hc12 : ((a0.Op == 5) && (a1.Op == 2)) = true
     ·
      replace h := iteT hc12 h
      refine NWp.condT (t := ((a0.Op == 5) && (a1.Op == 2))) rfl hc12 ?_
      refine NWp.seq ?_
      refine NWp.opsJ ⟨tab [(62, vb (a0.N == a1.N))], stab [], 0⟩ ?_ ?_
      ·
       refine q1 (.d (.cptr (some 4) (uapi_Pol a0) 2)) ?_
       refine q1 (vh a0.N) ?_
       refine q1 (.d (.cptr (some 4) (uapi_Pol a1) 2)) ?_
       refine q1 (vh a1.N) ?_
       refine q1 (vb (a0.N == a1.N)) ?_
       exact nR []
      by_cases hc13 : (a0.N == a1.N) = true
      ·
       replace h := iteT hc13 h
       refine NWp.condT (t := (a0.N == a1.N)) rfl hc13 ?_
       refine NWp.opsJ ⟨tab [(4, vi 2)], stab [], 0⟩ ?_ ?_
       ·
        refine q1 (vi 2) ?_
        exact nR []
       have hh := Option.some.inj h
       subst hh
       refine NWp.ret ?_
       show FQ _ _ _ _
       exact FQ.mk1 (.inr rfl) (res_t (v := vi 2) rfl rfl) (RV.d trivial)
      ·
       replace h := iteF hc13 h
       refine NWp.condF (t := (a0.N == a1.N)) rfl hc13 ?_
       refine NWp.skip ?_
       refine NWp.opsJ ⟨tab [(4, vi 3)], stab [], 0⟩ ?_ ?_
       ·
        refine q1 (vi 3) ?_
        exact nR []
       have hh := Option.some.inj h
       subst hh
       refine NWp.ret ?_
       show FQ _ _ _ _
       exact FQ.mk1 (.inr rfl) (res_t (v := vi 3) rfl rfl) (RV.d trivial)
     ·
      replace h := iteF hc12 h
      refine NWp.condF (t := ((a0.Op == 5) && (a1.Op == 2))) rfl hc12 ?_
      refine NWp.skip ?_
      refine NWp.seq ?_
      refine NWp.opsJ ⟨tab [(77, vb ((a0.Op == 2) && ((a1.Op == 5) && (a0.N == a1.N))))], stab [], 0⟩ ?_ ?_
      ·
       refine q1 (vp0 a0) ?_
       refine q1 (vi a0.Op) ?_
       refine q1 (vb (a0.Op == 2)) ?_
       refine q1 (vb (a0.Op == 2)) ?_
       by_cases hg14 : (a0.Op == 2) = true
       ·
        refine qG (a0.Op == 2) hg14 ?_
        refine q1 (vp0 a1) ?_
        refine qG (a0.Op == 2) hg14 ?_
        refine q1 (vi a1.Op) ?_
        refine qG (a0.Op == 2) hg14 ?_
        refine q1 (vb (a1.Op == 5)) ?_
        refine step (v := vb (a1.Op == 5)) (st_pickT (b := (a0.Op == 2)) rfl hg14 rfl) ?_
        refine q1 (vb (a1.Op == 5)) ?_
        by_cases hg15 : (a1.Op == 5) = true
        ·
         refine qG (a1.Op == 5) hg15 ?_
         refine q1 (.d (.cptr (some 4) (uapi_Pol a0) 2)) ?_
         refine qG (a1.Op == 5) hg15 ?_
         refine q1 (vh a0.N) ?_
         refine qG (a1.Op == 5) hg15 ?_
         refine q1 (.d (.cptr (some 4) (uapi_Pol a1) 2)) ?_
         refine qG (a1.Op == 5) hg15 ?_
         refine q1 (vh a1.N) ?_
         refine qG (a1.Op == 5) hg15 ?_
         refine q1 (vb (a0.N == a1.N)) ?_
         refine step (v := vb (a0.N == a1.N)) (st_pickT (b := (a1.Op == 5)) rfl hg15 rfl) ?_
         exact RunOps.nil' (nm [] ⟨.eq (by first | (simp [hg14, hg15]; done) | (simp_all; done) | grind), trivial⟩ trivial)
        ·
         refine qX (a1.Op == 5) hg15 ?_
         refine qX (a1.Op == 5) hg15 ?_
         refine qX (a1.Op == 5) hg15 ?_
         refine qX (a1.Op == 5) hg15 ?_
         refine qX (a1.Op == 5) hg15 ?_
         refine step (v := vb false) (st_pickF (b := (a1.Op == 5)) rfl hg15 rfl) ?_
         exact RunOps.nil' (nm [] ⟨.eq (by first | (simp [hg14, hg15]; done) | (simp_all; done) | grind), trivial⟩ trivial)
       ·
        refine qX (a0.Op == 2) hg14 ?_
        refine qX (a0.Op == 2) hg14 ?_
        refine qX (a0.Op == 2) hg14 ?_
        refine step (v := vb false) (st_pickF (b := (a0.Op == 2)) rfl hg14 rfl) ?_
        refine q1 (vb false) ?_
        refine qX false (by decide) ?_
        refine qX false (by decide) ?_
        refine qX false (by decide) ?_
        refine qX false (by decide) ?_
        refine qX false (by decide) ?_
        refine step (v := vb false) (st_pickF (b := false) rfl (by decide) rfl) ?_
        exact RunOps.nil' (nm [] ⟨.eq (by first | (simp [hg14]; done) | (simp_all; done) | grind), trivial⟩ trivial)
      by_cases hc16 : ((a0.Op == 2) && ((a1.Op == 5) && (a0.N == a1.N))) = true
      ·
       replace h := iteT hc16 h
       refine NWp.condT (t := ((a0.Op == 2) && ((a1.Op == 5) && (a0.N == a1.N)))) rfl hc16 ?_
       refine NWp.opsJ ⟨tab [(4, vi 2)], stab [], 0⟩ ?_ ?_
       ·
        refine q1 (vi 2) ?_
        exact nR []
       have hh := Option.some.inj h
       subst hh
       refine NWp.ret ?_
       show FQ _ _ _ _
       exact FQ.mk1 (.inr rfl) (res_t (v := vi 2) rfl rfl) (RV.d trivial)
      ·
       replace h := iteF hc16 h
       refine NWp.condF (t := ((a0.Op == 2) && ((a1.Op == 5) && (a0.N == a1.N)))) rfl hc16 ?_
       refine NWp.skip ?_
       refine NWp.opsJ ⟨tab [(4, vi 0)], stab [], 0⟩ ?_ ?_
       ·
        refine q1 (vi 0) ?_
        exact nR []
       have hh := Option.some.inj h
       subst hh
       refine NWp.ret ?_
       show FQ _ _ _ _
       exact FQ.mk1 (.inr rfl) (res_t (v := vi 0) rfl rfl) (RV.d trivial)

theorem c_ref28_predicates {a0 : (List api_Pol)} {r : Bool} (h : ref28_predicates a0 = some r) : PCall Try.prog 111 [eL (some 4) eapi_Pol a0] (.bool r) := by
 refine PCall.introN ok111 (show 1 ≤ 16 by decide) ?_
 refine NWp.norm (s0 := ⟨tab [(0, vl0 a0)], stab [], 0⟩) (nr []) ?_
 refine NWp.opsJ ⟨tab [(0, vl0 a0)], stab [], 0⟩ ?_ ?_
 ·
  refine q1 (vb false) ?_
  exact nR []
 refine NWp.seq ?_
 refine NWp.opsJ ⟨tab [(0, vl0 a0), (3, vi 0)], stab [], 0⟩ ?_ ?_
 ·
  refine q1 (vi 0) ?_
  exact nR []
 obtain ⟨q10, hl, h⟩ := bindE h
 refine NWp.block ?_
 refine loop_forR (cntU (a0.length : Int)) (fun (i1 : Int) (qq : Unit) => ⟨tab [(0, vl0 a0), (3, vi i1)], stab [], 0⟩) 0 (fun (qq : Unit) => ⟨tab [], stab [], 0⟩) Low low_step (r := r) hl (by unfold Low; omega) ?_ ?_ ?_ ?_
 ·
  rintro i1 ⟨⟩ xr6 hinv4 hgo3 h
  show NWp _ _ _ _ _ ⟨tab [(0, vl0 a0), (3, vi i1)], stab [], 0⟩
  have hc5 : decide (i1 < (a0.length : Int)) = true := decide_eq_true hgo3
  refine NWp.seq ?_
  refine NWp.opsJ ⟨tab [(0, vl0 a0), (3, vi i1), (6, vi (a0.length : Int)), (7, vb (decide (i1 < (a0.length : Int))))], stab [], 0⟩ ?_ ?_
  ·
   refine q1 (vi i1) ?_
   refine q1 (vl0 a0) ?_
   refine step (v := vi (a0.length : Int)) (st_len (xs := a0) (e := eapi_Pol) rfl) ?_
   refine q1 (vb (decide (i1 < (a0.length : Int)))) ?_
   exact nR []
  refine NWp.rng 6 rfl fun hB2 => ?_
  refine NWp.condT (t := decide (i1 < (a0.length : Int))) rfl hc5 ?_
  refine NWp.skip ?_
  refine NWp.seq ?_
  refine NWp.block ?_
  obtain ⟨x7, hx7, h⟩ := bindE h
  obtain ⟨r8, hr8, h⟩ := bindE h
  refine NWp.opsJ ⟨tab [(0, vl0 a0), (3, vi i1), (15, vb (!r8))], stab [], 0⟩ ?_ ?_
  ·
   refine q1 (vl0 a0) ?_
   refine q1 (vi i1) ?_
   refine step (v := vp0 x7) (st_iaddrU (xs := a0) (e := eapi_Pol) hx7 rfl rfl (eu_api_Pol _)) ?_
   refine q1 (vs0 x7) ?_
   refine stepC (r := .bool r8) (ArgsOk.dt ArgsOk.nil') (c_ref05_Predicate hr8) ?_
   refine q1 (vb (!r8)) ?_
   exact nR []
  by_cases hc9 : (!r8) = true
  ·
   replace h := iteT hc9 h
   refine NWp.condT (t := (!r8)) rfl hc9 ?_
   refine NWp.opsJ ⟨tab [(2, vb false)], stab [], 0⟩ ?_ ?_
   ·
    refine q1 (vb false) ?_
    exact nR []
   obtain ⟨r10, kr10, hr⟩ := mapE (o := some false) (g := Br.ret) h
   subst hr
   have h := kr10
   have hh := Option.some.inj h
   subst hh
   refine NWp.ret ?_
   refine And.intro (fun hn => nomatch hn) ?_
   intro hq
   have hq := hq.symm
   subst hq
   show FQ _ _ _ _
   exact FQ.mk1 (.inr rfl) (res_t (v := vb false) rfl rfl) (RV.d trivial)
  ·
   replace h := iteF hc9 h
   refine NWp.condF (t := (!r8)) rfl hc9 ?_
   refine NWp.skip ?_
   have hh := Option.some.inj h
   subst hh
   refine NWp.opsE ⟨tab [(0, vl0 a0), (3, vi (i1 + 1))], stab [], 0⟩ ?_ ?_
   ·
    refine q1 (vi i1) ?_
    refine step (v := vi (i1 + 1)) (st_inc (inc_ok hinv4 hgo3 hB2) rfl rfl) ?_
    refine q1 (vi (i1 + 1)) ?_
    exact nR []
   exact And.intro rfl rfl
 ·
  rintro i1 ⟨⟩ hinv4 hgo3
  show NWp _ _ _ _ _ ⟨tab [(0, vl0 a0), (3, vi i1)], stab [], 0⟩
  have hc5 : ¬ (decide (i1 < (a0.length : Int)) = true) := fun hq => hgo3 (of_decide_eq_true hq)
  refine NWp.seq ?_
  refine NWp.opsJ ⟨tab [(0, vl0 a0), (3, vi i1), (7, vb (decide (i1 < (a0.length : Int))))], stab [], 0⟩ ?_ ?_
  ·
   refine q1 (vi i1) ?_
   refine q1 (vl0 a0) ?_
   refine step (v := vi (a0.length : Int)) (st_len (xs := a0) (e := eapi_Pol) rfl) ?_
   refine q1 (vb (decide (i1 < (a0.length : Int)))) ?_
   exact nR []
  refine NWp.condF (t := decide (i1 < (a0.length : Int))) rfl hc5 ?_
  refine NWp.norm (s0 := ⟨tab [], stab [], 0⟩) (nr []) ?_
  refine NWp.exit ?_
  exact And.intro rfl rfl
 ·
  intro r' hq
  subst hq
  exact Option.some.inj h
 rintro ⟨⟩ rfl
 refine NWp.opsJ ⟨tab [(2, vb true)], stab [], 0⟩ ?_ ?_
 ·
  refine q1 (vb true) ?_
  exact nR []
 have hh := Option.some.inj h
 subst hh
 refine NWp.ret ?_
 show FQ _ _ _ _
 exact FQ.mk1 (.inr rfl) (res_t (v := vb true) rfl rfl) (RV.d trivial)

theorem c_ref28_once {a0 : api_Pol} {r : (api_Pol × Bool)} (h : ref28_once a0 = some r) : PCall Try.prog 96 [uapi_Pol a0] (.tup [uapi_Pol r.1, .bool r.2]) := by
 refine PCall.introN ok96 (show 1 ≤ 298 by decide) ?_
 refine NWp.norm (s0 := ⟨tab [(0, vs0 a0)], stab [], 0⟩) (nr []) ?_
 refine NWp.opsJ ⟨tab [(1, .ptr 0 0 0), (2, .ptr 1 0 0)], stab [(0, bv1 a0), (1, bv0)], 2⟩ ?_ ?_
 ·
  refine step (v := .ptr 0 0 0) (σ' := (upd (stab []) 0 (some (bv1 a0)))) (n' := 1) rfl ?_
  refine step (v := .ptr 1 0 0) (σ' := (upd (upd (stab []) 0 (some (bv1 a0))) 1 (some (bv0)))) (n' := 2) rfl ?_
  refine q1 (vb false) ?_
  exact nR [0, 1]
 refine NWp.opsJ ⟨tab [(1, .ptr 0 0 0), (2, .ptr 1 0 0), (4, vl0 a0.Kids)], stab [(0, bv1 a0), (1, bv0)], 2⟩ ?_ ?_
 ·
  refine q1 (.ptr 0 0 3) ?_
  refine q1 (vl0 a0.Kids) ?_
  refine q1 (vl0 a0.Kids) ?_
  exact nR [0, 1]
 obtain ⟨q34, hv, h⟩ := bindE h
 refine NWp.seqS (fun (qq : Unit) => ⟨tab [(1, .ptr 0 0 0), (2, .ptr 1 0 0), (4, vl0 a0.Kids)], stab [(0, bv1 a0), (1, bv0)], 2⟩) (xv := q34) (r := r) ?_ ?_ ?_
 ·
  replace h := hv
  refine NWp.opsJ ⟨tab [(1, .ptr 0 0 0), (2, .ptr 1 0 0), (4, vl0 a0.Kids), (24, vb ((a0.Op == 6) || (a0.Op == 7)))], stab [(0, bv1 a0), (1, bv0)], 2⟩ ?_ ?_
  ·
   refine q1 (.ptr 0 0 0) ?_
   refine q1 (vi a0.Op) ?_
   refine q1 (vb (a0.Op == 6)) ?_
   refine q1 (vb (a0.Op == 6)) ?_
   by_cases hg1 : (a0.Op == 6) = true
   ·
    refine qX (a0.Op == 6) (by rw [hg1]; decide) ?_
    refine qX (a0.Op == 6) (by rw [hg1]; decide) ?_
    refine qX (a0.Op == 6) (by rw [hg1]; decide) ?_
    refine step (v := vb true) (st_pickT (b := (a0.Op == 6)) rfl hg1 rfl) ?_
    exact RunOps.nil' (nm [0, 1] ⟨.pt 0, .pt 1, .d _, .eq (by first | (simp [hg1]; done) | (simp_all; done) | grind), trivial⟩ ⟨⟨show 0 < 2 by decide, _, rfl, .vars ⟨.d _, .d _, .d _, .d _, trivial⟩⟩, ⟨show 1 < 2 by decide, _, rfl, .vars ⟨.d _, .d _, .d _, .d _, trivial⟩⟩, trivial⟩)
   ·
    refine qG (a0.Op == 6) (Bool.eq_false_iff.2 hg1) ?_
    refine q1 (.ptr 0 0 0) ?_
    refine qG (a0.Op == 6) (Bool.eq_false_iff.2 hg1) ?_
    refine q1 (vi a0.Op) ?_
    refine qG (a0.Op == 6) (Bool.eq_false_iff.2 hg1) ?_
    refine q1 (vb (a0.Op == 7)) ?_
    refine step (v := vb (a0.Op == 7)) (st_pickF (b := (a0.Op == 6)) rfl hg1 rfl) ?_
    exact RunOps.nil' (nm [0, 1] ⟨.pt 0, .pt 1, .d _, .eq (by first | (simp [hg1]; done) | (simp_all; done) | grind), trivial⟩ ⟨⟨show 0 < 2 by decide, _, rfl, .vars ⟨.d _, .d _, .d _, .d _, trivial⟩⟩, ⟨show 1 < 2 by decide, _, rfl, .vars ⟨.d _, .d _, .d _, .d _, trivial⟩⟩, trivial⟩)
  by_cases hc2 : ((a0.Op == 6) || (a0.Op == 7)) = true
  ·
   replace h := iteT hc2 h
   refine NWp.condT (t := ((a0.Op == 6) || (a0.Op == 7))) rfl hc2 ?_
   refine NWp.seq ?_
   refine NWp.opsJ ⟨tab [(1, .ptr 0 0 0), (2, .ptr 1 0 0), (4, vl0 a0.Kids), (5, vi 0)], stab [(0, bv1 a0), (1, bv0)], 2⟩ ?_ ?_
   ·
    refine q1 (vi 0) ?_
    exact nR [0, 1]
   obtain ⟨q33, hl, h⟩ := bindE h
   refine NWp.block ?_
   refine loop_forR (cntU (a0.Kids.length : Int)) (fun (i3 : Int) (qq : Unit) => ⟨tab [(1, .ptr 0 0 0), (2, .ptr 1 0 0), (4, vl0 a0.Kids), (5, vi i3)], stab [(0, bv1 a0), (1, bv0)], 2⟩) 0 (fun (qq : Unit) => ⟨tab [(1, .ptr 0 0 0), (2, .ptr 1 0 0), (4, vl0 a0.Kids)], stab [(0, bv1 a0), (1, bv0)], 2⟩) Low low_step (r := q34) hl (by unfold Low; omega) ?_ ?_ ?_ ?_
   ·
    rintro i3 ⟨⟩ xr8 hinv6 hgo5 h
    show NWp _ _ _ _ _ ⟨tab [(1, .ptr 0 0 0), (2, .ptr 1 0 0), (4, vl0 a0.Kids), (5, vi i3)], stab [(0, bv1 a0), (1, bv0)], 2⟩
    have hc7 : decide (i3 < (a0.Kids.length : Int)) = true := decide_eq_true hgo5
    refine NWp.seq ?_
    refine NWp.opsJ ⟨tab [(1, .ptr 0 0 0), (2, .ptr 1 0 0), (4, vl0 a0.Kids), (5, vi i3), (27, vi (a0.Kids.length : Int)), (28, vb (decide (i3 < (a0.Kids.length : Int))))], stab [(0, bv1 a0), (1, bv0)], 2⟩ ?_ ?_
    ·
     refine q1 (vi i3) ?_
     refine q1 (vl0 a0.Kids) ?_
     refine step (v := vi (a0.Kids.length : Int)) (st_len (xs := a0.Kids) (e := eapi_Pol) rfl) ?_
     refine q1 (vb (decide (i3 < (a0.Kids.length : Int)))) ?_
     exact nR [0, 1]
    refine NWp.rng 27 rfl fun hB4 => ?_
    refine NWp.condT (t := decide (i3 < (a0.Kids.length : Int))) rfl hc7 ?_
    refine NWp.skip ?_
    refine NWp.seq ?_
    refine NWp.block ?_
    obtain ⟨x9, hx9, h⟩ := bindE h
    refine NWp.opsJ ⟨tab [(1, .ptr 0 0 0), (2, .ptr 1 0 0), (4, vl0 a0.Kids), (5, vi i3), (38, vb (x9.Op == a0.Op))], stab [(0, bv1 a0), (1, bv0)], 2⟩ ?_ ?_
    ·
     refine q1 (vl0 a0.Kids) ?_
     refine q1 (vi i3) ?_
     refine step (v := vp0 x9) (st_iaddrU (xs := a0.Kids) (e := eapi_Pol) hx9 rfl rfl (eu_api_Pol _)) ?_
     refine q1 (vp0 x9) ?_
     refine q1 (vi x9.Op) ?_
     refine q1 (.ptr 0 0 0) ?_
     refine q1 (vi a0.Op) ?_
     refine q1 (vb (x9.Op == a0.Op)) ?_
     exact nR [0, 1]
    by_cases hc10 : (x9.Op == a0.Op) = true
    ·
     replace h := iteT hc10 h
     refine NWp.condT (t := (x9.Op == a0.Op)) rfl hc10 ?_
     refine NWp.opsJ ⟨tab [(1, .ptr 0 0 0), (2, .ptr 1 0 0), (4, vl0 a0.Kids), (5, vi i3), (6, .d (.nils))], stab [(0, bv1 a0), (1, bv0)], 2⟩ ?_ ?_
     ·
      refine q1 (.d (.nils)) ?_
      exact nR [0, 1]
     obtain ⟨l11, hl11, h⟩ := bindE h
     obtain ⟨l12, hl12, h⟩ := bindE h
     refine NWp.opsJ ⟨tab [(1, .ptr 0 0 0), (2, .ptr 1 0 0), (4, vl0 a0.Kids), (5, vi i3), (6, .loc 2 0 l12.length)], stab [(0, bv1 a0), (1, bv0), (2, .lst false (some 4) (List.map eapi_Pol l12))], 3⟩ ?_ ?_
     ·
      refine q1 (.d (.nils)) ?_
      refine q1 (vl0 a0.Kids) ?_
      refine q1 (vi i3) ?_
      refine step (v := vl0 l11) (st_slc (xs := a0.Kids) (e := eapi_Pol) hl11 rfl rfl ⟨_, rfl⟩) ?_
      refine step (v := .loc 2 0 l12.length) (σ' := (upd (stab [(0, bv1 a0), (1, bv0)]) 2 (some (.lst false (some 4) (List.map eapi_Pol l12))))) (n' := 3) (st_appN (ys := l11) (e := eapi_Pol) hl12 rfl (src_v (xs := l11) (e := eapi_Pol) rfl)) ?_
      refine q1 (.loc 2 0 l12.length) ?_
      exact nR [0, 1, 2]
     obtain ⟨l13, hl13, h⟩ := bindE h
     refine NWp.opsJ ⟨tab [(1, .ptr 0 0 0), (2, .ptr 1 0 0), (4, vl0 a0.Kids), (5, vi i3), (6, .loc 2 0 l13.length)], stab [(0, bv1 a0), (1, bv0), (2, .lst false (some 4) (List.map eapi_Pol l13))], 3⟩ ?_ ?_
     ·
      refine q1 (.loc 2 0 l12.length) ?_
      refine q1 (vl0 a0.Kids) ?_
      refine q1 (vi i3) ?_
      refine step (v := vp0 x9) (st_iaddrU (xs := a0.Kids) (e := eapi_Pol) hx9 rfl rfl (eu_api_Pol _)) ?_
      refine q1 (.d (.cptr (some 4) (uapi_Pol x9) 3)) ?_
      refine q1 (vl0 x9.Kids) ?_
      refine step (v := .loc 3 0 l13.length) (σ' := (upd (upd (stab [(0, bv1 a0), (1, bv0), (2, .lst false (some 4) (List.map eapi_Pol l12))]) 2 none) 3 (some (.lst false (some 4) (List.map eapi_Pol l13))))) (n' := 4) (st_app (xs := l12) (ys := x9.Kids) (e := eapi_Pol) hl13 rfl rfl rfl (src_v (xs := x9.Kids) (e := eapi_Pol) rfl)) ?_
      refine q1 (.loc 3 0 l13.length) ?_
      exact nR [0, 1, 3]
     obtain ⟨l14, hl14, h⟩ := bindE h
     obtain ⟨l15, hl15, h⟩ := bindE h
     refine NWp.opsJ ⟨tab [(1, .ptr 0 0 0), (2, .ptr 2 0 0)], stab [(0, .var [vi a0.Op, vi a0.F, vh a0.N, .loc 1 0 l15.length]), (1, .lst false (some 4) (List.map eapi_Pol l15)), (2, bv0)], 3⟩ ?_ ?_
     ·
      refine q1 (.loc 2 0 l13.length) ?_
      refine q1 (vl0 a0.Kids) ?_
      refine q1 (vi i3) ?_
      refine step (v := vi (i3 + 1)) (st_inc (inc_ok hinv6 hgo5 hB4) rfl rfl) ?_
      refine step (v := vl0 l14) (st_slc (xs := a0.Kids) (e := eapi_Pol) hl14 rfl ⟨_, rfl⟩ rfl) ?_
      refine step (v := .loc 3 0 l15.length) (σ' := (upd (upd (stab [(0, bv1 a0), (1, bv0), (2, .lst false (some 4) (List.map eapi_Pol l13))]) 2 none) 3 (some (.lst false (some 4) (List.map eapi_Pol l15))))) (n' := 4) (st_app (xs := l13) (ys := l14) (e := eapi_Pol) hl15 rfl rfl rfl (src_v (xs := l14) (e := eapi_Pol) rfl)) ?_
      refine q1 (.ptr 0 0 3) ?_
      refine step (v := V.undef) (σ' := (upd (upd (upd (stab [(0, bv1 a0), (1, bv0), (2, .lst false (some 4) (List.map eapi_Pol l13))]) 2 none) 3 (some (.lst false (some 4) (List.map eapi_Pol l15)))) 0 (some (.var [vi a0.Op, vi a0.F, vh a0.N, .loc 3 0 l15.length])))) (n' := 4) rfl ?_
      exact nR [0, 3, 1]
     refine NWp.opsJ ⟨tab [(2, .ptr 0 0 0), (3, vb true)], stab [(0, .var [vi a0.Op, vi a0.F, vh a0.N, .loc 1 0 l15.length]), (1, .lst false (some 4) (List.map eapi_Pol l15))], 2⟩ ?_ ?_
     ·
      refine q1 (.agg [vi a0.Op, vi a0.F, vh a0.N, .loc 1 0 l15.length]) ?_
      refine step (v := V.undef) (σ' := (upd (stab [(0, .var [vi a0.Op, vi a0.F, vh a0.N, .loc 1 0 l15.length]), (1, .lst false (some 4) (List.map eapi_Pol l15)), (2, bv0)]) 2 (some (.var [vi a0.Op, vi a0.F, vh a0.N, .loc 1 0 l15.length])))) (n' := 3) rfl ?_
      refine q1 (vb true) ?_
      exact nR [2, 1]
     obtain ⟨r16, kr16, hr⟩ := mapE (o := some (Sum.inr ((api_Pol.mk a0.Op a0.F a0.N l15), true))) (g := Br.ret) h
     subst hr
     have h := kr16
     obtain ⟨r17, kr17, hr⟩ := mapE (o := some ((api_Pol.mk a0.Op a0.F a0.N l15), true)) (g := Sum.inr) h
     subst hr
     have h := kr17
     have hh := Option.some.inj h
     subst hh
     refine NWp.ret ?_
     refine And.intro (fun hn => nomatch hn) ?_
     intro hq
     have hq := hq.symm
     subst hq
     refine And.intro (fun hn => nomatch hn) ?_
     intro hq
     have hq := hq.symm
     subst hq
     show FQ _ _ _ _
     exact FQ.mkT (.inr rfl) rfl (RV.agg (RV0.d (RV0.d (RV0.d (RV0.loc (xs := l15) (e := eapi_Pol) rfl rfl trivial)))) (RV.d trivial))
    ·
     replace h := iteF hc10 h
     refine NWp.condF (t := (x9.Op == a0.Op)) rfl hc10 ?_
     refine NWp.skip ?_
     have hh := Option.some.inj h
     subst hh
     refine NWp.opsE ⟨tab [(1, .ptr 0 0 0), (2, .ptr 1 0 0), (4, vl0 a0.Kids), (5, vi (i3 + 1))], stab [(0, bv1 a0), (1, bv0)], 2⟩ ?_ ?_
     ·
      refine q1 (vi i3) ?_
      refine step (v := vi (i3 + 1)) (st_inc (inc_ok hinv6 hgo5 hB4) rfl rfl) ?_
      refine q1 (vi (i3 + 1)) ?_
      exact nR [0, 1]
     exact And.intro rfl rfl
   ·
    rintro i3 ⟨⟩ hinv6 hgo5
    show NWp _ _ _ _ _ ⟨tab [(1, .ptr 0 0 0), (2, .ptr 1 0 0), (4, vl0 a0.Kids), (5, vi i3)], stab [(0, bv1 a0), (1, bv0)], 2⟩
    have hc7 : ¬ (decide (i3 < (a0.Kids.length : Int)) = true) := fun hq => hgo5 (of_decide_eq_true hq)
    refine NWp.seq ?_
    refine NWp.opsJ ⟨tab [(1, .ptr 0 0 0), (2, .ptr 1 0 0), (4, vl0 a0.Kids), (5, vi i3), (28, vb (decide (i3 < (a0.Kids.length : Int))))], stab [(0, bv1 a0), (1, bv0)], 2⟩ ?_ ?_
    ·
     refine q1 (vi i3) ?_
     refine q1 (vl0 a0.Kids) ?_
     refine step (v := vi (a0.Kids.length : Int)) (st_len (xs := a0.Kids) (e := eapi_Pol) rfl) ?_
     refine q1 (vb (decide (i3 < (a0.Kids.length : Int)))) ?_
     exact nR [0, 1]
    refine NWp.condF (t := decide (i3 < (a0.Kids.length : Int))) rfl hc7 ?_
    refine NWp.norm (s0 := ⟨tab [(1, .ptr 0 0 0), (2, .ptr 1 0 0), (4, vl0 a0.Kids)], stab [(0, bv1 a0), (1, bv0)], 2⟩) (nr [0, 1]) ?_
    refine NWp.exit ?_
    exact And.intro rfl rfl
   ·
    intro r' hq
    subst hq
    exact Option.some.inj h
   rintro ⟨⟩ rfl
   refine NWp.opsJ ⟨tab [(1, .ptr 0 0 0), (2, .ptr 1 0 0), (4, vl0 a0.Kids), (7, vi 0)], stab [(0, bv1 a0), (1, bv0)], 2⟩ ?_ ?_
   ·
    refine q1 (vi 0) ?_
    exact nR [0, 1]
   obtain ⟨q32, hl, h⟩ := bindE h
   refine NWp.block ?_
   refine loop_forR (cntU (a0.Kids.length : Int)) (fun (i16 : Int) (qq : Unit) => ⟨tab [(1, .ptr 0 0 0), (2, .ptr 1 0 0), (4, vl0 a0.Kids), (7, vi i16)], stab [(0, bv1 a0), (1, bv0)], 2⟩) 2 (fun (qq : Unit) => ⟨tab [(1, .ptr 0 0 0), (2, .ptr 1 0 0), (4, vl0 a0.Kids)], stab [(0, bv1 a0), (1, bv0)], 2⟩) Low low_step (r := q34) hl (by unfold Low; omega) ?_ ?_ ?_ ?_
   ·
    rintro i16 ⟨⟩ xr21 hinv19 hgo18 h
    show NWp _ _ _ _ _ ⟨tab [(1, .ptr 0 0 0), (2, .ptr 1 0 0), (4, vl0 a0.Kids), (7, vi i16)], stab [(0, bv1 a0), (1, bv0)], 2⟩
    have hc20 : decide (i16 < (a0.Kids.length : Int)) = true := decide_eq_true hgo18
    refine NWp.seq ?_
    refine NWp.opsJ ⟨tab [(1, .ptr 0 0 0), (2, .ptr 1 0 0), (4, vl0 a0.Kids), (7, vi i16), (61, vi (a0.Kids.length : Int)), (62, vb (decide (i16 < (a0.Kids.length : Int))))], stab [(0, bv1 a0), (1, bv0)], 2⟩ ?_ ?_
    ·
     refine q1 (vi i16) ?_
     refine q1 (vl0 a0.Kids) ?_
     refine step (v := vi (a0.Kids.length : Int)) (st_len (xs := a0.Kids) (e := eapi_Pol) rfl) ?_
     refine q1 (vb (decide (i16 < (a0.Kids.length : Int)))) ?_
     exact nR [0, 1]
    refine NWp.rng 61 rfl fun hB17 => ?_
    refine NWp.condT (t := decide (i16 < (a0.Kids.length : Int))) rfl hc20 ?_
    refine NWp.skip ?_
    refine NWp.seq ?_
    refine NWp.block ?_
    obtain ⟨y28, hv, h⟩ := bindE h
    refine NWp.opsJ ⟨tab [(1, .ptr 0 0 0), (2, .ptr 1 0 0), (4, vl0 a0.Kids), (7, vi i16), (88, vb y28)], stab [(0, bv1 a0), (1, bv0)], 2⟩ ?_ ?_
    ·
     refine q1 (.ptr 0 0 0) ?_
     refine q1 (vi a0.Op) ?_
     refine q1 (vb (a0.Op == 7)) ?_
     refine q1 (vb (a0.Op == 7)) ?_
     by_cases hg22 : (a0.Op == 7) = true
     ·
      replace hv := iteT hg22 hv
      obtain ⟨x23, hx23, hv⟩ := bindE hv
      refine qG (a0.Op == 7) hg22 ?_
      refine q1 (vl0 a0.Kids) ?_
      refine qG (a0.Op == 7) hg22 ?_
      refine q1 (vi i16) ?_
      refine qG (a0.Op == 7) hg22 ?_
      refine step (v := vp0 x23) (st_iaddrU (xs := a0.Kids) (e := eapi_Pol) hx23 rfl rfl (eu_api_Pol _)) ?_
      refine qG (a0.Op == 7) hg22 ?_
      refine q1 (vp0 x23) ?_
      refine qG (a0.Op == 7) hg22 ?_
      refine q1 (vi x23.Op) ?_
      refine qG (a0.Op == 7) hg22 ?_
      refine q1 (vb (x23.Op == 0)) ?_
      refine step (v := vb (x23.Op == 0)) (st_pickT (b := (a0.Op == 7)) rfl hg22 rfl) ?_
      refine q1 (vb (x23.Op == 0)) ?_
      by_cases hg24 : (x23.Op == 0) = true
      ·
       replace hv := iteT hg24 hv
       refine qX (x23.Op == 0) (by rw [hg24]; decide) ?_
       refine qX (x23.Op == 0) (by rw [hg24]; decide) ?_
       refine qX (x23.Op == 0) (by rw [hg24]; decide) ?_
       refine qX (x23.Op == 0) (by rw [hg24]; decide) ?_
       refine stepXX rfl ?_
       refine stepXX rfl ?_
       refine stepXX rfl ?_
       refine stepXX rfl ?_
       refine stepXX rfl ?_
       refine stepXX rfl ?_
       refine qX (x23.Op == 0) (by rw [hg24]; decide) ?_
       refine step (v := vb true) (st_pickT (b := (x23.Op == 0)) rfl hg24 rfl) ?_
       have hh := Option.some.inj hv
       subst hh
       exact nR [0, 1]
      ·
       replace hv := iteF hg24 hv
       refine qG (x23.Op == 0) (Bool.eq_false_iff.2 hg24) ?_
       refine q1 (.ptr 0 0 0) ?_
       refine qG (x23.Op == 0) (Bool.eq_false_iff.2 hg24) ?_
       refine q1 (vi a0.Op) ?_
       refine qG (x23.Op == 0) (Bool.eq_false_iff.2 hg24) ?_
       refine q1 (vb (a0.Op == 6)) ?_
       refine qG (x23.Op == 0) (Bool.eq_false_iff.2 hg24) ?_
       refine q1 (vb (a0.Op == 6)) ?_
       by_cases hg25 : (a0.Op == 6) = true
       ·
        replace hv := iteT hg25 hv
        refine qG (a0.Op == 6) hg25 ?_
        refine q1 (vl0 a0.Kids) ?_
        refine qG (a0.Op == 6) hg25 ?_
        refine q1 (vi i16) ?_
        refine qG (a0.Op == 6) hg25 ?_
        refine step (v := vp0 x23) (st_iaddrU (xs := a0.Kids) (e := eapi_Pol) hx23 rfl rfl (eu_api_Pol _)) ?_
        refine qG (a0.Op == 6) hg25 ?_
        refine q1 (vp0 x23) ?_
        refine qG (a0.Op == 6) hg25 ?_
        refine q1 (vi x23.Op) ?_
        refine qG (a0.Op == 6) hg25 ?_
        refine q1 (vb (x23.Op == 1)) ?_
        refine qG (x23.Op == 0) (Bool.eq_false_iff.2 hg24) ?_
        refine step (v := vb (x23.Op == 1)) (st_pickT (b := (a0.Op == 6)) rfl hg25 rfl) ?_
        refine step (v := vb (x23.Op == 1)) (st_pickF (b := (x23.Op == 0)) rfl hg24 rfl) ?_
        have hh := Option.some.inj hv
        subst hh
        exact nR [0, 1]
       ·
        replace hv := iteF hg25 hv
        refine qX (a0.Op == 6) hg25 ?_
        refine qX (a0.Op == 6) hg25 ?_
        refine qX (a0.Op == 6) hg25 ?_
        refine qX (a0.Op == 6) hg25 ?_
        refine qX (a0.Op == 6) hg25 ?_
        refine qX (a0.Op == 6) hg25 ?_
        refine qG (x23.Op == 0) (Bool.eq_false_iff.2 hg24) ?_
        refine step (v := vb false) (st_pickF (b := (a0.Op == 6)) rfl hg25 rfl) ?_
        refine step (v := vb false) (st_pickF (b := (x23.Op == 0)) rfl hg24 rfl) ?_
        have hh := Option.some.inj hv
        subst hh
        exact nR [0, 1]
     ·
      replace hv := iteF hg22 hv
      refine qX (a0.Op == 7) hg22 ?_
      refine qX (a0.Op == 7) hg22 ?_
      refine qX (a0.Op == 7) hg22 ?_
      refine qX (a0.Op == 7) hg22 ?_
      refine qX (a0.Op == 7) hg22 ?_
      refine qX (a0.Op == 7) hg22 ?_
      refine step (v := vb false) (st_pickF (b := (a0.Op == 7)) rfl hg22 rfl) ?_
      refine q1 (vb false) ?_
      refine qG false rfl ?_
      refine q1 (.ptr 0 0 0) ?_
      refine qG false rfl ?_
      refine q1 (vi a0.Op) ?_
      refine qG false rfl ?_
      refine q1 (vb (a0.Op == 6)) ?_
      refine qG false rfl ?_
      refine q1 (vb (a0.Op == 6)) ?_
      by_cases hg26 : (a0.Op == 6) = true
      ·
       replace hv := iteT hg26 hv
       obtain ⟨x27, hx27, hv⟩ := bindE hv
       refine qG (a0.Op == 6) hg26 ?_
       refine q1 (vl0 a0.Kids) ?_
       refine qG (a0.Op == 6) hg26 ?_
       refine q1 (vi i16) ?_
       refine qG (a0.Op == 6) hg26 ?_
       refine step (v := vp0 x27) (st_iaddrU (xs := a0.Kids) (e := eapi_Pol) hx27 rfl rfl (eu_api_Pol _)) ?_
       refine qG (a0.Op == 6) hg26 ?_
       refine q1 (vp0 x27) ?_
       refine qG (a0.Op == 6) hg26 ?_
       refine q1 (vi x27.Op) ?_
       refine qG (a0.Op == 6) hg26 ?_
       refine q1 (vb (x27.Op == 1)) ?_
       refine qG false rfl ?_
       refine step (v := vb (x27.Op == 1)) (st_pickT (b := (a0.Op == 6)) rfl hg26 rfl) ?_
       refine step (v := vb (x27.Op == 1)) (st_pickF (b := false) rfl (by decide) rfl) ?_
       have hh := Option.some.inj hv
       subst hh
       exact nR [0, 1]
      ·
       replace hv := iteF hg26 hv
       refine qX (a0.Op == 6) hg26 ?_
       refine qX (a0.Op == 6) hg26 ?_
       refine qX (a0.Op == 6) hg26 ?_
       refine qX (a0.Op == 6) hg26 ?_
       refine qX (a0.Op == 6) hg26 ?_
       refine qX (a0.Op == 6) hg26 ?_
       refine qG false rfl ?_
       refine step (v := vb false) (st_pickF (b := (a0.Op == 6)) rfl hg26 rfl) ?_
       refine step (v := vb false) (st_pickF (b := false) rfl (by decide) rfl) ?_
       have hh := Option.some.inj hv
       subst hh
       exact nR [0, 1]
    by_cases hc30 : y28 = true
    ·
     replace h := iteT hc30 h
     refine NWp.condT (t := y28) rfl hc30 ?_
     obtain ⟨r31, hr31, h⟩ := bindE h
     refine NWp.opsJ ⟨tab [(1, .ptr 0 0 0), (2, .ptr 1 0 0)], stab [(0, .var [vi a0.Op, vi a0.F, vh a0.N, vl0 r31]), (1, bv0)], 2⟩ ?_ ?_
     ·
      refine q1 (vl0 a0.Kids) ?_
      refine q1 (vi i16) ?_
      refine stepC (r := eL (some 4) eapi_Pol r31) (ArgsOk.dt (ArgsOk.dt ArgsOk.nil')) (c_ref28_cut hr31) ?_
      refine q1 (.ptr 0 0 3) ?_
      refine step (v := V.undef) (σ' := (upd (stab [(0, bv1 a0), (1, bv0)]) 0 (some (.var [vi a0.Op, vi a0.F, vh a0.N, vl0 r31])))) (n' := 2) rfl ?_
      exact nR [0, 1]
     refine NWp.opsJ ⟨tab [(2, .ptr 0 0 0), (3, vb true)], stab [(0, .var [vi a0.Op, vi a0.F, vh a0.N, vl0 r31])], 1⟩ ?_ ?_
     ·
      refine step (v := vs0 (api_Pol.mk a0.Op a0.F a0.N r31)) (st_ldV (ds := [.int .i64 a0.Op, .int .i64 a0.F, .int .u16 a0.N, eL (some 4) eapi_Pol r31]) rfl rfl (show 4 ≤ 4 by decide) rfl) ?_
      refine step (v := V.undef) (σ' := (upd (stab [(0, .var [vi a0.Op, vi a0.F, vh a0.N, vl0 r31]), (1, bv0)]) 1 (some (.var [vi a0.Op, vi a0.F, vh a0.N, vl0 r31])))) (n' := 2) rfl ?_
      refine q1 (vb true) ?_
      exact nR [1]
     obtain ⟨r32, kr32, hr⟩ := mapE (o := some (Sum.inr ((api_Pol.mk a0.Op a0.F a0.N r31), true))) (g := Br.ret) h
     subst hr
     have h := kr32
     obtain ⟨r33, kr33, hr⟩ := mapE (o := some ((api_Pol.mk a0.Op a0.F a0.N r31), true)) (g := Sum.inr) h
     subst hr
     have h := kr33
     have hh := Option.some.inj h
     subst hh
     refine NWp.ret ?_
     refine And.intro (fun hn => nomatch hn) ?_
     intro hq
     have hq := hq.symm
     subst hq
     refine And.intro (fun hn => nomatch hn) ?_
     intro hq
     have hq := hq.symm
     subst hq
     show FQ _ _ _ _
     exact FQ.mkT (.inr rfl) (res_cell (ds := [.int .i64 a0.Op, .int .i64 a0.F, .int .u16 a0.N, eL (some 4) eapi_Pol r31]) rfl rfl (show 4 ≤ 4 by decide) rfl (res_t (v := vb true) rfl rfl)) (RV.d (RV.d trivial))
    ·
     replace h := iteF hc30 h
     refine NWp.condF (t := y28) rfl hc30 ?_
     refine NWp.skip ?_
     have hh := Option.some.inj h
     subst hh
     refine NWp.opsE ⟨tab [(1, .ptr 0 0 0), (2, .ptr 1 0 0), (4, vl0 a0.Kids), (7, vi (i16 + 1))], stab [(0, bv1 a0), (1, bv0)], 2⟩ ?_ ?_
     ·
      refine q1 (vi i16) ?_
      refine step (v := vi (i16 + 1)) (st_inc (inc_ok hinv19 hgo18 hB17) rfl rfl) ?_
      refine q1 (vi (i16 + 1)) ?_
      exact nR [0, 1]
     exact And.intro rfl rfl
   ·
    rintro i16 ⟨⟩ hinv19 hgo18
    show NWp _ _ _ _ _ ⟨tab [(1, .ptr 0 0 0), (2, .ptr 1 0 0), (4, vl0 a0.Kids), (7, vi i16)], stab [(0, bv1 a0), (1, bv0)], 2⟩
    have hc20 : ¬ (decide (i16 < (a0.Kids.length : Int)) = true) := fun hq => hgo18 (of_decide_eq_true hq)
    refine NWp.seq ?_
    refine NWp.opsJ ⟨tab [(1, .ptr 0 0 0), (2, .ptr 1 0 0), (4, vl0 a0.Kids), (7, vi i16), (62, vb (decide (i16 < (a0.Kids.length : Int))))], stab [(0, bv1 a0), (1, bv0)], 2⟩ ?_ ?_
    ·
     refine q1 (vi i16) ?_
     refine q1 (vl0 a0.Kids) ?_
     refine step (v := vi (a0.Kids.length : Int)) (st_len (xs := a0.Kids) (e := eapi_Pol) rfl) ?_
     refine q1 (vb (decide (i16 < (a0.Kids.length : Int)))) ?_
     exact nR [0, 1]
    refine NWp.condF (t := decide (i16 < (a0.Kids.length : Int))) rfl hc20 ?_
    refine NWp.norm (s0 := ⟨tab [(1, .ptr 0 0 0), (2, .ptr 1 0 0), (4, vl0 a0.Kids)], stab [(0, bv1 a0), (1, bv0)], 2⟩) (nr [0, 1]) ?_
    refine NWp.exit ?_
    exact And.intro rfl rfl
   ·
    intro r' hq
    subst hq
    exact Option.some.inj h
   rintro ⟨⟩ rfl
   have hh := Option.some.inj h
   subst hh
   exact And.intro rfl rfl
  ·
   replace h := iteF hc2 h
   refine NWp.condF (t := ((a0.Op == 6) || (a0.Op == 7))) rfl hc2 ?_
   have hh := Option.some.inj h
   subst hh
   refine NWp.norm (s0 := ⟨tab [(1, .ptr 0 0 0), (2, .ptr 1 0 0), (4, vl0 a0.Kids)], stab [(0, bv1 a0), (1, bv0)], 2⟩) (nr [0, 1]) ?_
   refine NWp.skip ?_
   exact And.intro rfl rfl
 ·
  intro r' hq
  subst hq
  exact Option.some.inj h
 rintro ⟨⟩ rfl
 show NWp _ _ _ _ _ ⟨tab [(1, .ptr 0 0 0), (2, .ptr 1 0 0), (4, vl0 a0.Kids)], stab [(0, bv1 a0), (1, bv0)], 2⟩
 obtain ⟨q45, hv, h⟩ := bindE h
 refine NWp.seqS (fun (qq : Unit) => ⟨tab [(1, .ptr 0 0 0), (2, .ptr 1 0 0), (4, vl0 a0.Kids)], stab [(0, bv1 a0), (1, bv0)], 2⟩) (xv := q45) (r := r) ?_ ?_ ?_
 ·
  replace h := hv
  refine NWp.opsJ ⟨tab [(1, .ptr 0 0 0), (2, .ptr 1 0 0), (4, vl0 a0.Kids), (96, vb (a0.Op == 6))], stab [(0, bv1 a0), (1, bv0)], 2⟩ ?_ ?_
  ·
   refine q1 (.ptr 0 0 0) ?_
   refine q1 (vi a0.Op) ?_
   refine q1 (vb (a0.Op == 6)) ?_
   exact nR [0, 1]
  by_cases hc35 : (a0.Op == 6) = true
  ·
   replace h := iteT hc35 h
   refine NWp.condT (t := (a0.Op == 6)) rfl hc35 ?_
   refine NWp.opsJ ⟨tab [(1, .ptr 0 0 0), (2, .ptr 1 0 0), (4, vl0 a0.Kids), (8, vi 0)], stab [(0, bv1 a0), (1, bv0)], 2⟩ ?_ ?_
   ·
    refine q1 (vi 0) ?_
    exact nR [0, 1]
   obtain ⟨q44, hl, h⟩ := bindE h
   refine NWp.block ?_
   refine loop_forR (cntU (a0.Kids.length : Int)) (fun (i36 : Int) (qq : Unit) => ⟨tab [(1, .ptr 0 0 0), (2, .ptr 1 0 0), (4, vl0 a0.Kids), (8, vi i36)], stab [(0, bv1 a0), (1, bv0)], 2⟩) 4 (fun (qq : Unit) => ⟨tab [(1, .ptr 0 0 0), (2, .ptr 1 0 0), (4, vl0 a0.Kids)], stab [(0, bv1 a0), (1, bv0)], 2⟩) Low low_step (r := q45) hl (by unfold Low; omega) ?_ ?_ ?_ ?_
   ·
    rintro i36 ⟨⟩ xr41 hinv39 hgo38 h
    show NWp _ _ _ _ _ ⟨tab [(1, .ptr 0 0 0), (2, .ptr 1 0 0), (4, vl0 a0.Kids), (8, vi i36)], stab [(0, bv1 a0), (1, bv0)], 2⟩
    have hc40 : decide (i36 < (a0.Kids.length : Int)) = true := decide_eq_true hgo38
    refine NWp.seq ?_
    refine NWp.opsJ ⟨tab [(1, .ptr 0 0 0), (2, .ptr 1 0 0), (4, vl0 a0.Kids), (8, vi i36), (99, vi (a0.Kids.length : Int)), (100, vb (decide (i36 < (a0.Kids.length : Int))))], stab [(0, bv1 a0), (1, bv0)], 2⟩ ?_ ?_
    ·
     refine q1 (vi i36) ?_
     refine q1 (vl0 a0.Kids) ?_
     refine step (v := vi (a0.Kids.length : Int)) (st_len (xs := a0.Kids) (e := eapi_Pol) rfl) ?_
     refine q1 (vb (decide (i36 < (a0.Kids.length : Int)))) ?_
     exact nR [0, 1]
    refine NWp.rng 99 rfl fun hB37 => ?_
    refine NWp.condT (t := decide (i36 < (a0.Kids.length : Int))) rfl hc40 ?_
    refine NWp.skip ?_
    refine NWp.seq ?_
    refine NWp.block ?_
    obtain ⟨x42, hx42, h⟩ := bindE h
    refine NWp.opsJ ⟨tab [(1, .ptr 0 0 0), (2, .ptr 1 0 0), (4, vl0 a0.Kids), (8, vi i36), (108, vb (x42.Op == 0))], stab [(0, bv1 a0), (1, bv0)], 2⟩ ?_ ?_
    ·
     refine q1 (vl0 a0.Kids) ?_
     refine q1 (vi i36) ?_
     refine step (v := vp0 x42) (st_iaddrU (xs := a0.Kids) (e := eapi_Pol) hx42 rfl rfl (eu_api_Pol _)) ?_
     refine q1 (vp0 x42) ?_
     refine q1 (vi x42.Op) ?_
     refine q1 (vb (x42.Op == 0)) ?_
     exact nR [0, 1]
    by_cases hc43 : (x42.Op == 0) = true
    ·
     replace h := iteT hc43 h
     refine NWp.condT (t := (x42.Op == 0)) rfl hc43 ?_
     refine NWp.opsJ ⟨tab [(2, .ptr 0 0 0), (3, vb true)], stab [(0, bv0)], 1⟩ ?_ ?_
     ·
      refine step (v := vs0 (api_Pol.mk 0 0 0 [])) (st_build (ds := [.int .i64 0, .int .i64 0, .int .u16 0, eL (some 4) eapi_Pol []]) rfl) ?_
      refine step (v := V.undef) (σ' := (upd (stab [(0, bv1 a0), (1, bv0)]) 1 (some (bv0)))) (n' := 2) rfl ?_
      refine q1 (vb true) ?_
      exact nR [1]
     obtain ⟨r44, kr44, hr⟩ := mapE (o := some (Sum.inr ((api_Pol.mk 0 0 0 []), true))) (g := Br.ret) h
     subst hr
     have h := kr44
     obtain ⟨r45, kr45, hr⟩ := mapE (o := some ((api_Pol.mk 0 0 0 []), true)) (g := Sum.inr) h
     subst hr
     have h := kr45
     have hh := Option.some.inj h
     subst hh
     refine NWp.ret ?_
     refine And.intro (fun hn => nomatch hn) ?_
     intro hq
     have hq := hq.symm
     subst hq
     refine And.intro (fun hn => nomatch hn) ?_
     intro hq
     have hq := hq.symm
     subst hq
     show FQ _ _ _ _
     exact FQ.mkT (.inr rfl) (res_cell (ds := [.int .i64 0, .int .i64 0, .int .u16 0, eL (some 4) eapi_Pol []]) rfl rfl (show 4 ≤ 4 by decide) rfl (res_t (v := vb true) rfl rfl)) (RV.d (RV.d trivial))
    ·
     replace h := iteF hc43 h
     refine NWp.condF (t := (x42.Op == 0)) rfl hc43 ?_
     refine NWp.skip ?_
     have hh := Option.some.inj h
     subst hh
     refine NWp.opsE ⟨tab [(1, .ptr 0 0 0), (2, .ptr 1 0 0), (4, vl0 a0.Kids), (8, vi (i36 + 1))], stab [(0, bv1 a0), (1, bv0)], 2⟩ ?_ ?_
     ·
      refine q1 (vi i36) ?_
      refine step (v := vi (i36 + 1)) (st_inc (inc_ok hinv39 hgo38 hB37) rfl rfl) ?_
      refine q1 (vi (i36 + 1)) ?_
      exact nR [0, 1]
     exact And.intro rfl rfl
   ·
    rintro i36 ⟨⟩ hinv39 hgo38
    show NWp _ _ _ _ _ ⟨tab [(1, .ptr 0 0 0), (2, .ptr 1 0 0), (4, vl0 a0.Kids), (8, vi i36)], stab [(0, bv1 a0), (1, bv0)], 2⟩
    have hc40 : ¬ (decide (i36 < (a0.Kids.length : Int)) = true) := fun hq => hgo38 (of_decide_eq_true hq)
    refine NWp.seq ?_
    refine NWp.opsJ ⟨tab [(1, .ptr 0 0 0), (2, .ptr 1 0 0), (4, vl0 a0.Kids), (8, vi i36), (100, vb (decide (i36 < (a0.Kids.length : Int))))], stab [(0, bv1 a0), (1, bv0)], 2⟩ ?_ ?_
    ·
     refine q1 (vi i36) ?_
     refine q1 (vl0 a0.Kids) ?_
     refine step (v := vi (a0.Kids.length : Int)) (st_len (xs := a0.Kids) (e := eapi_Pol) rfl) ?_
     refine q1 (vb (decide (i36 < (a0.Kids.length : Int)))) ?_
     exact nR [0, 1]
    refine NWp.condF (t := decide (i36 < (a0.Kids.length : Int))) rfl hc40 ?_
    refine NWp.norm (s0 := ⟨tab [(1, .ptr 0 0 0), (2, .ptr 1 0 0), (4, vl0 a0.Kids)], stab [(0, bv1 a0), (1, bv0)], 2⟩) (nr [0, 1]) ?_
    refine NWp.exit ?_
    exact And.intro rfl rfl
   ·
    intro r' hq
    subst hq
    exact Option.some.inj h
   rintro ⟨⟩ rfl
   have hh := Option.some.inj h
   subst hh
   exact And.intro rfl rfl
  ·
   replace h := iteF hc35 h
   refine NWp.condF (t := (a0.Op == 6)) rfl hc35 ?_
   have hh := Option.some.inj h
   subst hh
   refine NWp.norm (s0 := ⟨tab [(1, .ptr 0 0 0), (2, .ptr 1 0 0), (4, vl0 a0.Kids)], stab [(0, bv1 a0), (1, bv0)], 2⟩) (nr [0, 1]) ?_
   refine NWp.skip ?_
   exact And.intro rfl rfl
 ·
  intro r' hq
  subst hq
  exact Option.some.inj h
 rintro ⟨⟩ rfl
 show NWp _ _ _ _ _ ⟨tab [(1, .ptr 0 0 0), (2, .ptr 1 0 0), (4, vl0 a0.Kids)], stab [(0, bv1 a0), (1, bv0)], 2⟩
 obtain ⟨q66, hv, h⟩ := bindE h
 refine NWp.seqS (fun (qq : Unit) => ⟨tab [(1, .ptr 0 0 0), (2, .ptr 1 0 0), (4, vl0 a0.Kids)], stab [(0, bv1 a0), (1, bv0)], 2⟩) (xv := q66) (r := r) ?_ ?_ ?_
 ·
  replace h := hv
  refine NWp.opsJ ⟨tab [(1, .ptr 0 0 0), (2, .ptr 1 0 0), (4, vl0 a0.Kids), (112, vb (a0.Op == 7))], stab [(0, bv1 a0), (1, bv0)], 2⟩ ?_ ?_
  ·
   refine q1 (.ptr 0 0 0) ?_
   refine q1 (vi a0.Op) ?_
   refine q1 (vb (a0.Op == 7)) ?_
   exact nR [0, 1]
  by_cases hc46 : (a0.Op == 7) = true
  ·
   replace h := iteT hc46 h
   refine NWp.condT (t := (a0.Op == 7)) rfl hc46 ?_
   refine NWp.opsJ ⟨tab [(1, .ptr 0 0 0), (2, .ptr 1 0 0), (4, vl0 a0.Kids), (9, vi 0)], stab [(0, bv1 a0), (1, bv0)], 2⟩ ?_ ?_
   ·
    refine q1 (vi 0) ?_
    exact nR [0, 1]
   obtain ⟨q65, hl, h⟩ := bindE h
   refine NWp.block ?_
   refine loop_forR (cntU (a0.Kids.length : Int)) (fun (i47 : Int) (qq : Unit) => ⟨tab [(1, .ptr 0 0 0), (2, .ptr 1 0 0), (4, vl0 a0.Kids), (9, vi i47)], stab [(0, bv1 a0), (1, bv0)], 2⟩) 6 (fun (qq : Unit) => ⟨tab [(1, .ptr 0 0 0), (2, .ptr 1 0 0), (4, vl0 a0.Kids)], stab [(0, bv1 a0), (1, bv0)], 2⟩) Low low_step (r := q66) hl (by unfold Low; omega) ?_ ?_ ?_ ?_
   ·
    rintro i47 ⟨⟩ xr52 hinv50 hgo49 h
    show NWp _ _ _ _ _ ⟨tab [(1, .ptr 0 0 0), (2, .ptr 1 0 0), (4, vl0 a0.Kids), (9, vi i47)], stab [(0, bv1 a0), (1, bv0)], 2⟩
    have hc51 : decide (i47 < (a0.Kids.length : Int)) = true := decide_eq_true hgo49
    refine NWp.seq ?_
    refine NWp.opsJ ⟨tab [(1, .ptr 0 0 0), (2, .ptr 1 0 0), (4, vl0 a0.Kids), (9, vi i47), (115, vi (a0.Kids.length : Int)), (116, vb (decide (i47 < (a0.Kids.length : Int))))], stab [(0, bv1 a0), (1, bv0)], 2⟩ ?_ ?_
    ·
     refine q1 (vi i47) ?_
     refine q1 (vl0 a0.Kids) ?_
     refine step (v := vi (a0.Kids.length : Int)) (st_len (xs := a0.Kids) (e := eapi_Pol) rfl) ?_
     refine q1 (vb (decide (i47 < (a0.Kids.length : Int)))) ?_
     exact nR [0, 1]
    refine NWp.rng 115 rfl fun hB48 => ?_
    refine NWp.condT (t := decide (i47 < (a0.Kids.length : Int))) rfl hc51 ?_
    refine NWp.skip ?_
    refine NWp.seq ?_
    refine NWp.block ?_
    refine NWp.opsJ ⟨tab [(1, .ptr 0 0 0), (2, .ptr 1 0 0), (4, vl0 a0.Kids), (9, vi i47), (10, vi 0)], stab [(0, bv1 a0), (1, bv0)], 2⟩ ?_ ?_
    ·
     refine q1 (vi 0) ?_
     exact nR [0, 1]
    obtain ⟨q64, hl, h⟩ := bindE h
    refine NWp.block ?_
    refine loop_forR (cntU i47) (fun (i53 : Int) (qq : Unit) => ⟨tab [(1, .ptr 0 0 0), (2, .ptr 1 0 0), (4, vl0 a0.Kids), (9, vi i47), (10, vi i53)], stab [(0, bv1 a0), (1, bv0)], 2⟩) 8 (fun (qq : Unit) => ⟨tab [(1, .ptr 0 0 0), (2, .ptr 1 0 0), (4, vl0 a0.Kids), (9, vi i47)], stab [(0, bv1 a0), (1, bv0)], 2⟩) Low low_step (r := xr52) hl (by unfold Low; omega) ?_ ?_ ?_ ?_
    ·
     rintro i53 ⟨⟩ xr58 hinv56 hgo55 h
     show NWp _ _ _ _ _ ⟨tab [(1, .ptr 0 0 0), (2, .ptr 1 0 0), (4, vl0 a0.Kids), (9, vi i47), (10, vi i53)], stab [(0, bv1 a0), (1, bv0)], 2⟩
     have hc57 : decide (i53 < i47) = true := decide_eq_true hgo55
     refine NWp.seq ?_
     refine NWp.opsJ ⟨tab [(1, .ptr 0 0 0), (2, .ptr 1 0 0), (4, vl0 a0.Kids), (9, vi i47), (10, vi i53), (120, vi i47), (121, vb (decide (i53 < i47)))], stab [(0, bv1 a0), (1, bv0)], 2⟩ ?_ ?_
     ·
      refine q1 (vi i53) ?_
      refine q1 (vi i47) ?_
      refine q1 (vb (decide (i53 < i47))) ?_
      exact nR [0, 1]
     refine NWp.rng 120 rfl fun hB54 => ?_
     refine NWp.condT (t := decide (i53 < i47)) rfl hc57 ?_
     refine NWp.skip ?_
     refine NWp.seq ?_
     refine NWp.block ?_
     obtain ⟨x59, hx59, h⟩ := bindE h
     obtain ⟨x60, hx60, h⟩ := bindE h
     obtain ⟨r61, hr61, h⟩ := bindE h
     refine NWp.opsJ ⟨tab [(1, .ptr 0 0 0), (2, .ptr 1 0 0), (4, vl0 a0.Kids), (9, vi i47), (10, vi i53), (132, vb r61)], stab [(0, bv1 a0), (1, bv0)], 2⟩ ?_ ?_
     ·
      refine q1 (vl0 a0.Kids) ?_
      refine q1 (vi i47) ?_
      refine step (v := vp0 x59) (st_iaddrU (xs := a0.Kids) (e := eapi_Pol) hx59 rfl rfl (eu_api_Pol _)) ?_
      refine q1 (vs0 x59) ?_
      refine q1 (vl0 a0.Kids) ?_
      refine q1 (vi i53) ?_
      refine step (v := vp0 x60) (st_iaddrU (xs := a0.Kids) (e := eapi_Pol) hx60 rfl rfl (eu_api_Pol _)) ?_
      refine q1 (vs0 x60) ?_
      refine stepC (r := .bool r61) (ArgsOk.dt (ArgsOk.dt ArgsOk.nil')) (c_ref05_SamePol hr61) ?_
      exact nR [0, 1]
     by_cases hc62 : r61 = true
     ·
      replace h := iteT hc62 h
      refine NWp.condT (t := r61) rfl hc62 ?_
      obtain ⟨r63, hr63, h⟩ := bindE h
      refine NWp.opsJ ⟨tab [(1, .ptr 0 0 0), (2, .ptr 1 0 0)], stab [(0, .var [vi a0.Op, vi a0.F, vh a0.N, vl0 r63]), (1, bv0)], 2⟩ ?_ ?_
      ·
       refine q1 (vl0 a0.Kids) ?_
       refine q1 (vi i47) ?_
       refine stepC (r := eL (some 4) eapi_Pol r63) (ArgsOk.dt (ArgsOk.dt ArgsOk.nil')) (c_ref28_cut hr63) ?_
       refine q1 (.ptr 0 0 3) ?_
       refine step (v := V.undef) (σ' := (upd (stab [(0, bv1 a0), (1, bv0)]) 0 (some (.var [vi a0.Op, vi a0.F, vh a0.N, vl0 r63])))) (n' := 2) rfl ?_
       exact nR [0, 1]
      refine NWp.opsJ ⟨tab [(2, .ptr 0 0 0), (3, vb true)], stab [(0, .var [vi a0.Op, vi a0.F, vh a0.N, vl0 r63])], 1⟩ ?_ ?_
      ·
       refine step (v := vs0 (api_Pol.mk a0.Op a0.F a0.N r63)) (st_ldV (ds := [.int .i64 a0.Op, .int .i64 a0.F, .int .u16 a0.N, eL (some 4) eapi_Pol r63]) rfl rfl (show 4 ≤ 4 by decide) rfl) ?_
       refine step (v := V.undef) (σ' := (upd (stab [(0, .var [vi a0.Op, vi a0.F, vh a0.N, vl0 r63]), (1, bv0)]) 1 (some (.var [vi a0.Op, vi a0.F, vh a0.N, vl0 r63])))) (n' := 2) rfl ?_
       refine q1 (vb true) ?_
       exact nR [1]
      obtain ⟨r64, kr64, hr⟩ := mapE (o := some (Br.ret (Sum.inr ((api_Pol.mk a0.Op a0.F a0.N r63), true)))) (g := Br.ret) h
      subst hr
      have h := kr64
      obtain ⟨r65, kr65, hr⟩ := mapE (o := some (Sum.inr ((api_Pol.mk a0.Op a0.F a0.N r63), true))) (g := Br.ret) h
      subst hr
      have h := kr65
      obtain ⟨r66, kr66, hr⟩ := mapE (o := some ((api_Pol.mk a0.Op a0.F a0.N r63), true)) (g := Sum.inr) h
      subst hr
      have h := kr66
      have hh := Option.some.inj h
      subst hh
      refine NWp.ret ?_
      refine And.intro (fun hn => nomatch hn) ?_
      intro hq
      have hq := hq.symm
      subst hq
      refine And.intro (fun hn => nomatch hn) ?_
      intro hq
      have hq := hq.symm
      subst hq
      refine And.intro (fun hn => nomatch hn) ?_
      intro hq
      have hq := hq.symm
      subst hq
      show FQ _ _ _ _
      exact FQ.mkT (.inr rfl) (res_cell (ds := [.int .i64 a0.Op, .int .i64 a0.F, .int .u16 a0.N, eL (some 4) eapi_Pol r63]) rfl rfl (show 4 ≤ 4 by decide) rfl (res_t (v := vb true) rfl rfl)) (RV.d (RV.d trivial))
     ·
      replace h := iteF hc62 h
      refine NWp.condF (t := r61) rfl hc62 ?_
      refine NWp.skip ?_
      have hh := Option.some.inj h
      subst hh
      refine NWp.opsE ⟨tab [(1, .ptr 0 0 0), (2, .ptr 1 0 0), (4, vl0 a0.Kids), (9, vi i47), (10, vi (i53 + 1))], stab [(0, bv1 a0), (1, bv0)], 2⟩ ?_ ?_
      ·
       refine q1 (vi i53) ?_
       refine step (v := vi (i53 + 1)) (st_inc (inc_ok hinv56 hgo55 hB54) rfl rfl) ?_
       refine q1 (vi (i53 + 1)) ?_
       exact nR [0, 1]
      exact And.intro rfl rfl
    ·
     rintro i53 ⟨⟩ hinv56 hgo55
     show NWp _ _ _ _ _ ⟨tab [(1, .ptr 0 0 0), (2, .ptr 1 0 0), (4, vl0 a0.Kids), (9, vi i47), (10, vi i53)], stab [(0, bv1 a0), (1, bv0)], 2⟩
     have hc57 : ¬ (decide (i53 < i47) = true) := fun hq => hgo55 (of_decide_eq_true hq)
     refine NWp.seq ?_
     refine NWp.opsJ ⟨tab [(1, .ptr 0 0 0), (2, .ptr 1 0 0), (4, vl0 a0.Kids), (9, vi i47), (10, vi i53), (121, vb (decide (i53 < i47)))], stab [(0, bv1 a0), (1, bv0)], 2⟩ ?_ ?_
     ·
      refine q1 (vi i53) ?_
      refine q1 (vi i47) ?_
      refine q1 (vb (decide (i53 < i47))) ?_
      exact nR [0, 1]
     refine NWp.condF (t := decide (i53 < i47)) rfl hc57 ?_
     refine NWp.norm (s0 := ⟨tab [(1, .ptr 0 0 0), (2, .ptr 1 0 0), (4, vl0 a0.Kids), (9, vi i47)], stab [(0, bv1 a0), (1, bv0)], 2⟩) (nr [0, 1]) ?_
     refine NWp.exit ?_
     exact And.intro rfl rfl
    ·
     intro r' hq
     subst hq
     exact Option.some.inj h
    rintro ⟨⟩ rfl
    have hh := Option.some.inj h
    subst hh
    refine NWp.opsE ⟨tab [(1, .ptr 0 0 0), (2, .ptr 1 0 0), (4, vl0 a0.Kids), (9, vi (i47 + 1))], stab [(0, bv1 a0), (1, bv0)], 2⟩ ?_ ?_
    ·
     refine q1 (vi i47) ?_
     refine step (v := vi (i47 + 1)) (st_inc (inc_ok hinv50 hgo49 hB48) rfl rfl) ?_
     refine q1 (vi (i47 + 1)) ?_
     exact nR [0, 1]
    exact And.intro rfl rfl
   ·
    rintro i47 ⟨⟩ hinv50 hgo49
    show NWp _ _ _ _ _ ⟨tab [(1, .ptr 0 0 0), (2, .ptr 1 0 0), (4, vl0 a0.Kids), (9, vi i47)], stab [(0, bv1 a0), (1, bv0)], 2⟩
    have hc51 : ¬ (decide (i47 < (a0.Kids.length : Int)) = true) := fun hq => hgo49 (of_decide_eq_true hq)
    refine NWp.seq ?_
    refine NWp.opsJ ⟨tab [(1, .ptr 0 0 0), (2, .ptr 1 0 0), (4, vl0 a0.Kids), (9, vi i47), (116, vb (decide (i47 < (a0.Kids.length : Int))))], stab [(0, bv1 a0), (1, bv0)], 2⟩ ?_ ?_
    ·
     refine q1 (vi i47) ?_
     refine q1 (vl0 a0.Kids) ?_
     refine step (v := vi (a0.Kids.length : Int)) (st_len (xs := a0.Kids) (e := eapi_Pol) rfl) ?_
     refine q1 (vb (decide (i47 < (a0.Kids.length : Int)))) ?_
     exact nR [0, 1]
    refine NWp.condF (t := decide (i47 < (a0.Kids.length : Int))) rfl hc51 ?_
    refine NWp.norm (s0 := ⟨tab [(1, .ptr 0 0 0), (2, .ptr 1 0 0), (4, vl0 a0.Kids)], stab [(0, bv1 a0), (1, bv0)], 2⟩) (nr [0, 1]) ?_
    refine NWp.exit ?_
    exact And.intro rfl rfl
   ·
    intro r' hq
    subst hq
    exact Option.some.inj h
   rintro ⟨⟩ rfl
   have hh := Option.some.inj h
   subst hh
   exact And.intro rfl rfl
  ·
   replace h := iteF hc46 h
   refine NWp.condF (t := (a0.Op == 7)) rfl hc46 ?_
   have hh := Option.some.inj h
   subst hh
   refine NWp.norm (s0 := ⟨tab [(1, .ptr 0 0 0), (2, .ptr 1 0 0), (4, vl0 a0.Kids)], stab [(0, bv1 a0), (1, bv0)], 2⟩) (nr [0, 1]) ?_
   refine NWp.skip ?_
   exact And.intro rfl rfl
 ·
  intro r' hq
  subst hq
  exact Option.some.inj h
 rintro ⟨⟩ rfl
 show NWp _ _ _ _ _ ⟨tab [(1, .ptr 0 0 0), (2, .ptr 1 0 0), (4, vl0 a0.Kids)], stab [(0, bv1 a0), (1, bv0)], 2⟩
 obtain ⟨q94, hv, h⟩ := bindE h
 refine NWp.seqS (fun (qq : Unit) => ⟨tab [(1, .ptr 0 0 0), (2, .ptr 1 0 0), (4, vl0 a0.Kids)], stab [(0, bv1 a0), (1, bv0)], 2⟩) (xv := q94) (r := r) ?_ ?_ ?_
 ·
  replace h := hv
  refine NWp.opsJ ⟨tab [(1, .ptr 0 0 0), (2, .ptr 1 0 0), (4, vl0 a0.Kids), (140, vb (a0.Op == 6))], stab [(0, bv1 a0), (1, bv0)], 2⟩ ?_ ?_
  ·
   refine q1 (.ptr 0 0 0) ?_
   refine q1 (vi a0.Op) ?_
   refine q1 (vb (a0.Op == 6)) ?_
   exact nR [0, 1]
  by_cases hc67 : (a0.Op == 6) = true
  ·
   replace h := iteT hc67 h
   refine NWp.condT (t := (a0.Op == 6)) rfl hc67 ?_
   refine NWp.opsJ ⟨tab [(1, .ptr 0 0 0), (2, .ptr 1 0 0), (4, vl0 a0.Kids), (11, vi 5)], stab [(0, bv1 a0), (1, bv0)], 2⟩ ?_ ?_
   ·
    refine q1 (vi 5) ?_
    exact nR [0, 1]
   obtain ⟨q93, hl, h⟩ := bindE h
   refine NWp.block ?_
   refine loop_whR (fun (qq : Int) => ⟨tab [(1, .ptr 0 0 0), (2, .ptr 1 0 0), (4, vl0 a0.Kids), (11, vi qq)], stab [(0, bv1 a0), (1, bv0)], 2⟩) 10 (fun (qq : Int) => ⟨tab [(1, .ptr 0 0 0), (2, .ptr 1 0 0), (4, vl0 a0.Kids)], stab [(0, bv1 a0), (1, bv0)], 2⟩) (r := q94) hl ?_ ?_ ?_
   ·
    rintro i68 xr69 h
    show NWp _ _ _ _ _ ⟨tab [(1, .ptr 0 0 0), (2, .ptr 1 0 0), (4, vl0 a0.Kids), (11, vi i68)], stab [(0, bv1 a0), (1, bv0)], 2⟩
    refine NWp.seq ?_
    refine NWp.opsJ ⟨tab [(1, .ptr 0 0 0), (2, .ptr 1 0 0), (4, vl0 a0.Kids), (11, vi i68), (142, vb (decide (i68 ≤ 6)))], stab [(0, bv1 a0), (1, bv0)], 2⟩ ?_ ?_
    ·
     refine q1 (vi i68) ?_
     refine q1 (vb (decide (i68 ≤ 6))) ?_
     exact nR [0, 1]
    by_cases hc70 : decide (i68 ≤ 6) = true
    ·
     replace h := iteT hc70 h
     refine NWp.condT (t := decide (i68 ≤ 6)) rfl hc70 ?_
     refine NWp.skip ?_
     refine NWp.seq ?_
     refine NWp.block ?_
     refine NWp.opsJ ⟨tab [(1, .ptr 0 0 0), (2, .ptr 1 0 0), (4, vl0 a0.Kids), (11, vi i68), (12, vi 0)], stab [(0, bv1 a0), (1, bv0)], 2⟩ ?_ ?_
     ·
      refine q1 (vi 0) ?_
      exact nR [0, 1]
     obtain ⟨q91, hl, h⟩ := bindE h
     refine NWp.block ?_
     refine loop_whR (fun (qq : Int) => ⟨tab [(1, .ptr 0 0 0), (2, .ptr 1 0 0), (4, vl0 a0.Kids), (11, vi i68), (12, vi qq)], stab [(0, bv1 a0), (1, bv0)], 2⟩) 12 (fun (qq : Int) => ⟨tab [(1, .ptr 0 0 0), (2, .ptr 1 0 0), (4, vl0 a0.Kids), (11, vi i68)], stab [(0, bv1 a0), (1, bv0)], 2⟩) (r := xr69) hl ?_ ?_ ?_
     ·
      rintro i71 xr72 h
      show NWp _ _ _ _ _ ⟨tab [(1, .ptr 0 0 0), (2, .ptr 1 0 0), (4, vl0 a0.Kids), (11, vi i68), (12, vi i71)], stab [(0, bv1 a0), (1, bv0)], 2⟩
      refine NWp.seq ?_
      refine NWp.opsJ ⟨tab [(1, .ptr 0 0 0), (2, .ptr 1 0 0), (4, vl0 a0.Kids), (11, vi i68), (12, vi i71), (149, vb (decide ((IntKind.i64.wrap (i71 + 1)) < (a0.Kids.length : Int))))], stab [(0, bv1 a0), (1, bv0)], 2⟩ ?_ ?_
      ·
       refine q1 (vi i71) ?_
       refine q1 (vi (IntKind.i64.wrap (i71 + 1))) ?_
       refine q1 (vl0 a0.Kids) ?_
       refine step (v := vi (a0.Kids.length : Int)) (st_len (xs := a0.Kids) (e := eapi_Pol) rfl) ?_
       refine q1 (vb (decide ((IntKind.i64.wrap (i71 + 1)) < (a0.Kids.length : Int)))) ?_
       exact nR [0, 1]
      by_cases hc73 : decide ((IntKind.i64.wrap (i71 + 1)) < (a0.Kids.length : Int)) = true
      ·
       replace h := iteT hc73 h
       refine NWp.condT (t := decide ((IntKind.i64.wrap (i71 + 1)) < (a0.Kids.length : Int))) rfl hc73 ?_
       refine NWp.skip ?_
       obtain ⟨q89, hv, h⟩ := bindE h
       refine NWp.seqS (fun (qq : Unit) => ⟨tab [(1, .ptr 0 0 0), (2, .ptr 1 0 0), (4, vl0 a0.Kids), (11, vi i68), (12, vi i71)], stab [(0, bv1 a0), (1, bv0)], 2⟩) (xv := q89) (r := xr72) ?_ ?_ ?_
       ·
        replace h := hv
        refine NWp.block ?_
        obtain ⟨x74, hx74, h⟩ := bindE h
        obtain ⟨y79, hv, h⟩ := bindE h
        refine NWp.opsJ ⟨tab [(1, .ptr 0 0 0), (2, .ptr 1 0 0), (4, vl0 a0.Kids), (11, vi i68), (12, vi i71), (13, vb y79)], stab [(0, bv1 a0), (1, bv0)], 2⟩ ?_ ?_
        ·
         refine q1 (vl0 a0.Kids) ?_
         refine q1 (vi i71) ?_
         refine step (v := vp0 x74) (st_iaddrU (xs := a0.Kids) (e := eapi_Pol) hx74 rfl rfl (eu_api_Pol _)) ?_
         refine q1 (vp0 x74) ?_
         refine q1 (vi x74.Op) ?_
         refine q1 (vb (x74.Op == 2)) ?_
         refine q1 (vb (x74.Op == 2)) ?_
         by_cases hg75 : (x74.Op == 2) = true
         ·
          replace hv := iteT hg75 hv
          obtain ⟨x76, hx76, hv⟩ := bindE hv
          refine qX (x74.Op == 2) (by rw [hg75]; decide) ?_
          refine qX (x74.Op == 2) (by rw [hg75]; decide) ?_
          refine qX (x74.Op == 2) (by rw [hg75]; decide) ?_
          refine qX (x74.Op == 2) (by rw [hg75]; decide) ?_
          refine qX (x74.Op == 2) (by rw [hg75]; decide) ?_
          refine qX (x74.Op == 2) (by rw [hg75]; decide) ?_
          refine step (v := vb true) (st_pickT (b := (x74.Op == 2)) rfl hg75 rfl) ?_
          refine q1 (vb true) ?_
          refine qG true rfl ?_
          refine q1 (vl0 a0.Kids) ?_
          refine qG true rfl ?_
          refine q1 (vi i71) ?_
          refine qG true rfl ?_
          refine step (v := vp0 x74) (st_iaddrU (xs := a0.Kids) (e := eapi_Pol) hx74 rfl rfl (eu_api_Pol _)) ?_
          refine qG true rfl ?_
          refine q1 (vp0 x74) ?_
          refine qG true rfl ?_
          refine q1 (vi x74.Op) ?_
          refine qG true rfl ?_
          refine q1 (vl0 a0.Kids) ?_
          refine qG true rfl ?_
          refine q1 (vi i71) ?_
          refine qG true rfl ?_
          refine q1 (vi (IntKind.i64.wrap (i71 + 1))) ?_
          refine qG true rfl ?_
          refine step (v := vp0 x76) (st_iaddrU (xs := a0.Kids) (e := eapi_Pol) hx76 rfl rfl (eu_api_Pol _)) ?_
          refine qG true rfl ?_
          refine q1 (vp0 x76) ?_
          refine qG true rfl ?_
          refine q1 (vi x76.Op) ?_
          refine qG true rfl ?_
          refine q1 (vb (x74.Op == x76.Op)) ?_
          refine step (v := vb (x74.Op == x76.Op)) (st_pickT (b := true) rfl rfl rfl) ?_
          refine q1 (vb (x74.Op == x76.Op)) ?_
          have hh := Option.some.inj hv
          subst hh
          exact nR [0, 1]
         ·
          replace hv := iteF hg75 hv
          refine qG (x74.Op == 2) (Bool.eq_false_iff.2 hg75) ?_
          refine q1 (vl0 a0.Kids) ?_
          refine qG (x74.Op == 2) (Bool.eq_false_iff.2 hg75) ?_
          refine q1 (vi i71) ?_
          refine qG (x74.Op == 2) (Bool.eq_false_iff.2 hg75) ?_
          refine step (v := vp0 x74) (st_iaddrU (xs := a0.Kids) (e := eapi_Pol) hx74 rfl rfl (eu_api_Pol _)) ?_
          refine qG (x74.Op == 2) (Bool.eq_false_iff.2 hg75) ?_
          refine q1 (vp0 x74) ?_
          refine qG (x74.Op == 2) (Bool.eq_false_iff.2 hg75) ?_
          refine q1 (vi x74.Op) ?_
          refine qG (x74.Op == 2) (Bool.eq_false_iff.2 hg75) ?_
          refine q1 (vb (x74.Op == 3)) ?_
          refine step (v := vb (x74.Op == 3)) (st_pickF (b := (x74.Op == 2)) rfl hg75 rfl) ?_
          refine q1 (vb (x74.Op == 3)) ?_
          by_cases hg77 : (x74.Op == 3) = true
          ·
           replace hv := iteT hg77 hv
           obtain ⟨x78, hx78, hv⟩ := bindE hv
           refine qG (x74.Op == 3) hg77 ?_
           refine q1 (vl0 a0.Kids) ?_
           refine qG (x74.Op == 3) hg77 ?_
           refine q1 (vi i71) ?_
           refine qG (x74.Op == 3) hg77 ?_
           refine step (v := vp0 x74) (st_iaddrU (xs := a0.Kids) (e := eapi_Pol) hx74 rfl rfl (eu_api_Pol _)) ?_
           refine qG (x74.Op == 3) hg77 ?_
           refine q1 (vp0 x74) ?_
           refine qG (x74.Op == 3) hg77 ?_
           refine q1 (vi x74.Op) ?_
           refine qG (x74.Op == 3) hg77 ?_
           refine q1 (vl0 a0.Kids) ?_
           refine qG (x74.Op == 3) hg77 ?_
           refine q1 (vi i71) ?_
           refine qG (x74.Op == 3) hg77 ?_
           refine q1 (vi (IntKind.i64.wrap (i71 + 1))) ?_
           refine qG (x74.Op == 3) hg77 ?_
           refine step (v := vp0 x78) (st_iaddrU (xs := a0.Kids) (e := eapi_Pol) hx78 rfl rfl (eu_api_Pol _)) ?_
           refine qG (x74.Op == 3) hg77 ?_
           refine q1 (vp0 x78) ?_
           refine qG (x74.Op == 3) hg77 ?_
           refine q1 (vi x78.Op) ?_
           refine qG (x74.Op == 3) hg77 ?_
           refine q1 (vb (x74.Op == x78.Op)) ?_
           refine step (v := vb (x74.Op == x78.Op)) (st_pickT (b := (x74.Op == 3)) rfl hg77 rfl) ?_
           refine q1 (vb (x74.Op == x78.Op)) ?_
           have hh := Option.some.inj hv
           subst hh
           exact nR [0, 1]
          ·
           replace hv := iteF hg77 hv
           refine qX (x74.Op == 3) hg77 ?_
           refine qX (x74.Op == 3) hg77 ?_
           refine qX (x74.Op == 3) hg77 ?_
           refine qX (x74.Op == 3) hg77 ?_
           refine qX (x74.Op == 3) hg77 ?_
           refine qX (x74.Op == 3) hg77 ?_
           refine qX (x74.Op == 3) hg77 ?_
           refine qX (x74.Op == 3) hg77 ?_
           refine qX (x74.Op == 3) hg77 ?_
           refine qX (x74.Op == 3) hg77 ?_
           refine qX (x74.Op == 3) hg77 ?_
           refine qX (x74.Op == 3) hg77 ?_
           refine step (v := vb false) (st_pickF (b := (x74.Op == 3)) rfl hg77 rfl) ?_
           refine q1 (vb false) ?_
           have hh := Option.some.inj hv
           subst hh
           exact nR [0, 1]
        refine NWp.seq ?_
        refine NWp.opsJ ⟨tab [(1, .ptr 0 0 0), (2, .ptr 1 0 0), (4, vl0 a0.Kids), (11, vi i68), (12, vi i71), (183, vb (!(y79 == (i68 == 5))))], stab [(0, bv1 a0), (1, bv0)], 2⟩ ?_ ?_
        ·
         refine q1 (vb y79) ?_
         refine q1 (vi i68) ?_
         refine q1 (vb (i68 == 5)) ?_
         refine q1 (vb (!(y79 == (i68 == 5)))) ?_
         exact nR [0, 1]
        by_cases hc81 : (!(y79 == (i68 == 5))) = true
        ·
         replace h := iteT hc81 h
         refine NWp.condT (t := (!(y79 == (i68 == 5)))) rfl hc81 ?_
         have hh := Option.some.inj h
         subst hh
         refine NWp.norm (s0 := ⟨tab [(1, .ptr 0 0 0), (2, .ptr 1 0 0), (4, vl0 a0.Kids), (11, vi i68), (12, vi i71)], stab [(0, bv1 a0), (1, bv0)], 2⟩) (nr [0, 1]) ?_
         refine NWp.exit ?_
         exact And.intro rfl rfl
        ·
         replace h := iteF hc81 h
         refine NWp.condF (t := (!(y79 == (i68 == 5)))) rfl hc81 ?_
         refine NWp.skip ?_
         obtain ⟨x82, hx82, h⟩ := bindE h
         obtain ⟨r83, hr83, h⟩ := bindE h
         refine NWp.opsJ ⟨tab [(1, .ptr 0 0 0), (2, .ptr 1 0 0), (4, vl0 a0.Kids), (11, vi i68), (12, vi i71), (193, vi r83)], stab [(0, bv1 a0), (1, bv0)], 2⟩ ?_ ?_
         ·
          refine q1 (vl0 a0.Kids) ?_
          refine q1 (vi i71) ?_
          refine step (v := vp0 x74) (st_iaddrU (xs := a0.Kids) (e := eapi_Pol) hx74 rfl rfl (eu_api_Pol _)) ?_
          refine q1 (vs0 x74) ?_
          refine q1 (vl0 a0.Kids) ?_
          refine q1 (vi i71) ?_
          refine q1 (vi (IntKind.i64.wrap (i71 + 1))) ?_
          refine step (v := vp0 x82) (st_iaddrU (xs := a0.Kids) (e := eapi_Pol) hx82 rfl rfl (eu_api_Pol _)) ?_
          refine q1 (vs0 x82) ?_
          refine stepC (r := .int .i64 r83) (ArgsOk.dt (ArgsOk.dt ArgsOk.nil')) (c_ref28_pair hr83) ?_
          exact nR [0, 1]
         refine NWp.block ?_
         refine NWp.opsJ ⟨tab [(1, .ptr 0 0 0), (2, .ptr 1 0 0), (4, vl0 a0.Kids), (11, vi i68), (12, vi i71), (193, vi r83), (194, vb (r83 == 1))], stab [(0, bv1 a0), (1, bv0)], 2⟩ ?_ ?_
         ·
          refine q1 (vb (r83 == 1)) ?_
          refine q1 (vb (r83 == 1)) ?_
          exact nR [0, 1]
         by_cases hc84 : (r83 == 1) = true
         ·
          replace h := iteT hc84 h
          refine NWp.condT (t := (r83 == 1)) rfl hc84 ?_
          obtain ⟨r85, hr85, h⟩ := bindE h
          refine NWp.opsJ ⟨tab [(1, .ptr 0 0 0), (2, .ptr 1 0 0)], stab [(0, .var [vi a0.Op, vi a0.F, vh a0.N, vl0 r85]), (1, bv0)], 2⟩ ?_ ?_
          ·
           refine q1 (vl0 a0.Kids) ?_
           refine q1 (vi i71) ?_
           refine stepC (r := eL (some 4) eapi_Pol r85) (ArgsOk.dt (ArgsOk.dt ArgsOk.nil')) (c_ref28_cut hr85) ?_
           refine q1 (.ptr 0 0 3) ?_
           refine step (v := V.undef) (σ' := (upd (stab [(0, bv1 a0), (1, bv0)]) 0 (some (.var [vi a0.Op, vi a0.F, vh a0.N, vl0 r85])))) (n' := 2) rfl ?_
           exact nR [0, 1]
          refine NWp.opsJ ⟨tab [(2, .ptr 0 0 0), (3, vb true)], stab [(0, .var [vi a0.Op, vi a0.F, vh a0.N, vl0 r85])], 1⟩ ?_ ?_
          ·
           refine step (v := vs0 (api_Pol.mk a0.Op a0.F a0.N r85)) (st_ldV (ds := [.int .i64 a0.Op, .int .i64 a0.F, .int .u16 a0.N, eL (some 4) eapi_Pol r85]) rfl rfl (show 4 ≤ 4 by decide) rfl) ?_
           refine step (v := V.undef) (σ' := (upd (stab [(0, .var [vi a0.Op, vi a0.F, vh a0.N, vl0 r85]), (1, bv0)]) 1 (some (.var [vi a0.Op, vi a0.F, vh a0.N, vl0 r85])))) (n' := 2) rfl ?_
           refine q1 (vb true) ?_
           exact nR [1]
          obtain ⟨r86, kr86, hr⟩ := mapE (o := some (Br.ret (Br.ret (Sum.inr ((api_Pol.mk a0.Op a0.F a0.N r85), true))))) (g := Sum.inr) h
          subst hr
          have h := kr86
          obtain ⟨r87, kr87, hr⟩ := mapE (o := some (Br.ret (Sum.inr ((api_Pol.mk a0.Op a0.F a0.N r85), true)))) (g := Br.ret) h
          subst hr
          have h := kr87
          obtain ⟨r88, kr88, hr⟩ := mapE (o := some (Sum.inr ((api_Pol.mk a0.Op a0.F a0.N r85), true))) (g := Br.ret) h
          subst hr
          have h := kr88
          obtain ⟨r89, kr89, hr⟩ := mapE (o := some ((api_Pol.mk a0.Op a0.F a0.N r85), true)) (g := Sum.inr) h
          subst hr
          have h := kr89
          have hh := Option.some.inj h
          subst hh
          refine NWp.ret ?_
          refine And.intro (fun hn => nomatch hn) ?_
          intro hq
          have hq := hq.symm
          subst hq
          refine And.intro (fun hn => nomatch hn) ?_
          intro hq
          have hq := hq.symm
          subst hq
          refine And.intro (fun hn => nomatch hn) ?_
          intro hq
          have hq := hq.symm
          subst hq
          refine And.intro (fun hn => nomatch hn) ?_
          intro hq
          have hq := hq.symm
          subst hq
          show FQ _ _ _ _
          exact FQ.mkT (.inr rfl) (res_cell (ds := [.int .i64 a0.Op, .int .i64 a0.F, .int .u16 a0.N, eL (some 4) eapi_Pol r85]) rfl rfl (show 4 ≤ 4 by decide) rfl (res_t (v := vb true) rfl rfl)) (RV.d (RV.d trivial))
         ·
          replace h := iteF hc84 h
          refine NWp.condF (t := (r83 == 1)) rfl hc84 ?_
          refine NWp.opsJ ⟨tab [(1, .ptr 0 0 0), (2, .ptr 1 0 0), (4, vl0 a0.Kids), (11, vi i68), (12, vi i71), (193, vi r83), (201, vb (r83 == 2))], stab [(0, bv1 a0), (1, bv0)], 2⟩ ?_ ?_
          ·
           refine q1 (vb (r83 == 2)) ?_
           refine q1 (vb (r83 == 2)) ?_
           exact nR [0, 1]
          by_cases hc86 : (r83 == 2) = true
          ·
           replace h := iteT hc86 h
           refine NWp.condT (t := (r83 == 2)) rfl hc86 ?_
           obtain ⟨r87, hr87, h⟩ := bindE h
           refine NWp.opsJ ⟨tab [(1, .ptr 0 0 0), (2, .ptr 1 0 0)], stab [(0, .var [vi a0.Op, vi a0.F, vh a0.N, vl0 r87]), (1, bv0)], 2⟩ ?_ ?_
           ·
            refine q1 (vl0 a0.Kids) ?_
            refine q1 (vi i71) ?_
            refine q1 (vi (IntKind.i64.wrap (i71 + 1))) ?_
            refine stepC (r := eL (some 4) eapi_Pol r87) (ArgsOk.dt (ArgsOk.dt ArgsOk.nil')) (c_ref28_cut hr87) ?_
            refine q1 (.ptr 0 0 3) ?_
            refine step (v := V.undef) (σ' := (upd (stab [(0, bv1 a0), (1, bv0)]) 0 (some (.var [vi a0.Op, vi a0.F, vh a0.N, vl0 r87])))) (n' := 2) rfl ?_
            exact nR [0, 1]
           refine NWp.opsJ ⟨tab [(2, .ptr 0 0 0), (3, vb true)], stab [(0, .var [vi a0.Op, vi a0.F, vh a0.N, vl0 r87])], 1⟩ ?_ ?_
           ·
            refine step (v := vs0 (api_Pol.mk a0.Op a0.F a0.N r87)) (st_ldV (ds := [.int .i64 a0.Op, .int .i64 a0.F, .int .u16 a0.N, eL (some 4) eapi_Pol r87]) rfl rfl (show 4 ≤ 4 by decide) rfl) ?_
            refine step (v := V.undef) (σ' := (upd (stab [(0, .var [vi a0.Op, vi a0.F, vh a0.N, vl0 r87]), (1, bv0)]) 1 (some (.var [vi a0.Op, vi a0.F, vh a0.N, vl0 r87])))) (n' := 2) rfl ?_
            refine q1 (vb true) ?_
            exact nR [1]
           obtain ⟨r88, kr88, hr⟩ := mapE (o := some (Br.ret (Br.ret (Sum.inr ((api_Pol.mk a0.Op a0.F a0.N r87), true))))) (g := Sum.inr) h
           subst hr
           have h := kr88
           obtain ⟨r89, kr89, hr⟩ := mapE (o := some (Br.ret (Sum.inr ((api_Pol.mk a0.Op a0.F a0.N r87), true)))) (g := Br.ret) h
           subst hr
           have h := kr89
           obtain ⟨r90, kr90, hr⟩ := mapE (o := some (Sum.inr ((api_Pol.mk a0.Op a0.F a0.N r87), true))) (g := Br.ret) h
           subst hr
           have h := kr90
           obtain ⟨r91, kr91, hr⟩ := mapE (o := some ((api_Pol.mk a0.Op a0.F a0.N r87), true)) (g := Sum.inr) h
           subst hr
           have h := kr91
           have hh := Option.some.inj h
           subst hh
           refine NWp.ret ?_
           refine And.intro (fun hn => nomatch hn) ?_
           intro hq
           have hq := hq.symm
           subst hq
           refine And.intro (fun hn => nomatch hn) ?_
           intro hq
           have hq := hq.symm
           subst hq
           refine And.intro (fun hn => nomatch hn) ?_
           intro hq
           have hq := hq.symm
           subst hq
           refine And.intro (fun hn => nomatch hn) ?_
           intro hq
           have hq := hq.symm
           subst hq
           show FQ _ _ _ _
           exact FQ.mkT (.inr rfl) (res_cell (ds := [.int .i64 a0.Op, .int .i64 a0.F, .int .u16 a0.N, eL (some 4) eapi_Pol r87]) rfl rfl (show 4 ≤ 4 by decide) rfl (res_t (v := vb true) rfl rfl)) (RV.d (RV.d trivial))
          ·
           replace h := iteF hc86 h
           refine NWp.condF (t := (r83 == 2)) rfl hc86 ?_
           refine NWp.opsJ ⟨tab [(1, .ptr 0 0 0), (2, .ptr 1 0 0), (4, vl0 a0.Kids), (11, vi i68), (12, vi i71), (209, vb (r83 == 3))], stab [(0, bv1 a0), (1, bv0)], 2⟩ ?_ ?_
           ·
            refine q1 (vb (r83 == 3)) ?_
            refine q1 (vb (r83 == 3)) ?_
            exact nR [0, 1]
           by_cases hc88 : (r83 == 3) = true
           ·
            replace h := iteT hc88 h
            refine NWp.condT (t := (r83 == 3)) rfl hc88 ?_
            refine NWp.opsJ ⟨tab [(2, .ptr 0 0 0), (3, vb true)], stab [(0, bv0)], 1⟩ ?_ ?_
            ·
             refine step (v := vs0 (api_Pol.mk 0 0 0 [])) (st_build (ds := [.int .i64 0, .int .i64 0, .int .u16 0, eL (some 4) eapi_Pol []]) rfl) ?_
             refine step (v := V.undef) (σ' := (upd (stab [(0, bv1 a0), (1, bv0)]) 1 (some (bv0)))) (n' := 2) rfl ?_
             refine q1 (vb true) ?_
             exact nR [1]
            obtain ⟨r89, kr89, hr⟩ := mapE (o := some (Br.ret (Br.ret (Sum.inr ((api_Pol.mk 0 0 0 []), true))))) (g := Sum.inr) h
            subst hr
            have h := kr89
            obtain ⟨r90, kr90, hr⟩ := mapE (o := some (Br.ret (Sum.inr ((api_Pol.mk 0 0 0 []), true)))) (g := Br.ret) h
            subst hr
            have h := kr90
            obtain ⟨r91, kr91, hr⟩ := mapE (o := some (Sum.inr ((api_Pol.mk 0 0 0 []), true))) (g := Br.ret) h
            subst hr
            have h := kr91
            obtain ⟨r92, kr92, hr⟩ := mapE (o := some ((api_Pol.mk 0 0 0 []), true)) (g := Sum.inr) h
            subst hr
            have h := kr92
            have hh := Option.some.inj h
            subst hh
            refine NWp.ret ?_
            refine And.intro (fun hn => nomatch hn) ?_
            intro hq
            have hq := hq.symm
            subst hq
            refine And.intro (fun hn => nomatch hn) ?_
            intro hq
            have hq := hq.symm
            subst hq
            refine And.intro (fun hn => nomatch hn) ?_
            intro hq
            have hq := hq.symm
            subst hq
            refine And.intro (fun hn => nomatch hn) ?_
            intro hq
            have hq := hq.symm
            subst hq
            show FQ _ _ _ _
            exact FQ.mkT (.inr rfl) (res_cell (ds := [.int .i64 0, .int .i64 0, .int .u16 0, eL (some 4) eapi_Pol []]) rfl rfl (show 4 ≤ 4 by decide) rfl (res_t (v := vb true) rfl rfl)) (RV.d (RV.d trivial))
           ·
            replace h := iteF hc88 h
            refine NWp.condF (t := (r83 == 3)) rfl hc88 ?_
            have hh := Option.some.inj h
            subst hh
            refine NWp.norm (s0 := ⟨tab [(1, .ptr 0 0 0), (2, .ptr 1 0 0), (4, vl0 a0.Kids), (11, vi i68), (12, vi i71)], stab [(0, bv1 a0), (1, bv0)], 2⟩) (nr [0, 1]) ?_
            refine NWp.skip ?_
            exact And.intro rfl rfl
       ·
        intro r' hq
        subst hq
        exact Option.some.inj h
       rintro ⟨⟩ rfl
       show NWp _ _ _ _ _ ⟨tab [(1, .ptr 0 0 0), (2, .ptr 1 0 0), (4, vl0 a0.Kids), (11, vi i68), (12, vi i71)], stab [(0, bv1 a0), (1, bv0)], 2⟩
       have hh := Option.some.inj h
       subst hh
       refine NWp.opsE ⟨tab [(1, .ptr 0 0 0), (2, .ptr 1 0 0), (4, vl0 a0.Kids), (11, vi i68), (12, vi (IntKind.i64.wrap (i71 + 1)))], stab [(0, bv1 a0), (1, bv0)], 2⟩ ?_ ?_
       ·
        refine q1 (vi i71) ?_
        refine q1 (vi (IntKind.i64.wrap (i71 + 1))) ?_
        refine q1 (vi (IntKind.i64.wrap (i71 + 1))) ?_
        exact nR [0, 1]
       exact And.intro rfl rfl
      ·
       replace h := iteF hc73 h
       refine NWp.condF (t := decide ((IntKind.i64.wrap (i71 + 1)) < (a0.Kids.length : Int))) rfl hc73 ?_
       have hh := Option.some.inj h
       subst hh
       refine NWp.norm (s0 := ⟨tab [(1, .ptr 0 0 0), (2, .ptr 1 0 0), (4, vl0 a0.Kids), (11, vi i68)], stab [(0, bv1 a0), (1, bv0)], 2⟩) (nr [0, 1]) ?_
       refine NWp.exit ?_
       exact And.intro rfl rfl
     ·
      intro r' hq
      subst hq
      exact Option.some.inj h
     rintro z90 rfl
     have hh := Option.some.inj h
     subst hh
     refine NWp.opsE ⟨tab [(1, .ptr 0 0 0), (2, .ptr 1 0 0), (4, vl0 a0.Kids), (11, vi (IntKind.i64.wrap (i68 + 1)))], stab [(0, bv1 a0), (1, bv0)], 2⟩ ?_ ?_
     ·
      refine q1 (vi i68) ?_
      refine q1 (vi (IntKind.i64.wrap (i68 + 1))) ?_
      refine q1 (vi (IntKind.i64.wrap (i68 + 1))) ?_
      exact nR [0, 1]
     exact And.intro rfl rfl
    ·
     replace h := iteF hc70 h
     refine NWp.condF (t := decide (i68 ≤ 6)) rfl hc70 ?_
     have hh := Option.some.inj h
     subst hh
     refine NWp.norm (s0 := ⟨tab [(1, .ptr 0 0 0), (2, .ptr 1 0 0), (4, vl0 a0.Kids)], stab [(0, bv1 a0), (1, bv0)], 2⟩) (nr [0, 1]) ?_
     refine NWp.exit ?_
     exact And.intro rfl rfl
   ·
    intro r' hq
    subst hq
    exact Option.some.inj h
   rintro z92 rfl
   have hh := Option.some.inj h
   subst hh
   exact And.intro rfl rfl
  ·
   replace h := iteF hc67 h
   refine NWp.condF (t := (a0.Op == 6)) rfl hc67 ?_
   have hh := Option.some.inj h
   subst hh
   refine NWp.norm (s0 := ⟨tab [(1, .ptr 0 0 0), (2, .ptr 1 0 0), (4, vl0 a0.Kids)], stab [(0, bv1 a0), (1, bv0)], 2⟩) (nr [0, 1]) ?_
   refine NWp.skip ?_
   exact And.intro rfl rfl
 ·
  intro r' hq
  subst hq
  exact Option.some.inj h
 rintro ⟨⟩ rfl
 show NWp _ _ _ _ _ ⟨tab [(1, .ptr 0 0 0), (2, .ptr 1 0 0), (4, vl0 a0.Kids)], stab [(0, bv1 a0), (1, bv0)], 2⟩
 obtain ⟨q109, hv, h⟩ := bindE h
 refine NWp.seqS (fun (qq : Unit) => ⟨tab [(1, .ptr 0 0 0), (2, .ptr 1 0 0), (4, vl0 a0.Kids)], stab [(0, bv1 a0), (1, bv0)], 2⟩) (xv := q109) (r := r) ?_ ?_ ?_
 ·
  replace h := hv
  obtain ⟨y97, hv, h⟩ := bindE h
  refine NWp.opsJ ⟨tab [(1, .ptr 0 0 0), (2, .ptr 1 0 0), (4, vl0 a0.Kids), (218, vb y97)], stab [(0, bv1 a0), (1, bv0)], 2⟩ ?_ ?_
  ·
   refine q1 (.ptr 0 0 0) ?_
   refine q1 (vi a0.Op) ?_
   refine q1 (vb (a0.Op == 7)) ?_
   refine q1 (vb (a0.Op == 7)) ?_
   by_cases hg95 : (a0.Op == 7) = true
   ·
    replace hv := iteT hg95 hv
    obtain ⟨r96, hr96, hv⟩ := bindE hv
    refine qG (a0.Op == 7) hg95 ?_
    refine q1 (vl0 a0.Kids) ?_
    refine qG (a0.Op == 7) hg95 ?_
    refine stepC (r := .bool r96) (ArgsOk.dt ArgsOk.nil') (c_ref28_predicates hr96) ?_
    refine step (v := vb r96) (st_pickT (b := (a0.Op == 7)) rfl hg95 rfl) ?_
    have hh := Option.some.inj hv
    subst hh
    exact nR [0, 1]
   ·
    replace hv := iteF hg95 hv
    refine qX (a0.Op == 7) hg95 ?_
    refine qX (a0.Op == 7) hg95 ?_
    refine step (v := vb false) (st_pickF (b := (a0.Op == 7)) rfl hg95 rfl) ?_
    have hh := Option.some.inj hv
    subst hh
    exact nR [0, 1]
  by_cases hc99 : y97 = true
  ·
   replace h := iteT hc99 h
   refine NWp.condT (t := y97) rfl hc99 ?_
   refine NWp.opsJ ⟨tab [(1, .ptr 0 0 0), (2, .ptr 1 0 0), (4, vl0 a0.Kids), (14, vi 0)], stab [(0, bv1 a0), (1, bv0)], 2⟩ ?_ ?_
   ·
    refine q1 (vi 0) ?_
    exact nR [0, 1]
   obtain ⟨q108, hl, h⟩ := bindE h
   refine NWp.block ?_
   refine loop_forR (cntU (a0.Kids.length : Int)) (fun (i100 : Int) (qq : Unit) => ⟨tab [(1, .ptr 0 0 0), (2, .ptr 1 0 0), (4, vl0 a0.Kids), (14, vi i100)], stab [(0, bv1 a0), (1, bv0)], 2⟩) 15 (fun (qq : Unit) => ⟨tab [(1, .ptr 0 0 0), (2, .ptr 1 0 0), (4, vl0 a0.Kids)], stab [(0, bv1 a0), (1, bv0)], 2⟩) Low low_step (r := q109) hl (by unfold Low; omega) ?_ ?_ ?_ ?_
   ·
    rintro i100 ⟨⟩ xr105 hinv103 hgo102 h
    show NWp _ _ _ _ _ ⟨tab [(1, .ptr 0 0 0), (2, .ptr 1 0 0), (4, vl0 a0.Kids), (14, vi i100)], stab [(0, bv1 a0), (1, bv0)], 2⟩
    have hc104 : decide (i100 < (a0.Kids.length : Int)) = true := decide_eq_true hgo102
    refine NWp.seq ?_
    refine NWp.opsJ ⟨tab [(1, .ptr 0 0 0), (2, .ptr 1 0 0), (4, vl0 a0.Kids), (14, vi i100), (221, vi (a0.Kids.length : Int)), (222, vb (decide (i100 < (a0.Kids.length : Int))))], stab [(0, bv1 a0), (1, bv0)], 2⟩ ?_ ?_
    ·
     refine q1 (vi i100) ?_
     refine q1 (vl0 a0.Kids) ?_
     refine step (v := vi (a0.Kids.length : Int)) (st_len (xs := a0.Kids) (e := eapi_Pol) rfl) ?_
     refine q1 (vb (decide (i100 < (a0.Kids.length : Int)))) ?_
     exact nR [0, 1]
    refine NWp.rng 221 rfl fun hB101 => ?_
    refine NWp.condT (t := decide (i100 < (a0.Kids.length : Int))) rfl hc104 ?_
    refine NWp.skip ?_
    refine NWp.seq ?_
    refine NWp.block ?_
    obtain ⟨x106, hx106, h⟩ := bindE h
    refine NWp.opsJ ⟨tab [(1, .ptr 0 0 0), (2, .ptr 1 0 0), (4, vl0 a0.Kids), (14, vi i100), (230, vb (x106.Op == 1))], stab [(0, bv1 a0), (1, bv0)], 2⟩ ?_ ?_
    ·
     refine q1 (vl0 a0.Kids) ?_
     refine q1 (vi i100) ?_
     refine step (v := vp0 x106) (st_iaddrU (xs := a0.Kids) (e := eapi_Pol) hx106 rfl rfl (eu_api_Pol _)) ?_
     refine q1 (vp0 x106) ?_
     refine q1 (vi x106.Op) ?_
     refine q1 (vb (x106.Op == 1)) ?_
     exact nR [0, 1]
    by_cases hc107 : (x106.Op == 1) = true
    ·
     replace h := iteT hc107 h
     refine NWp.condT (t := (x106.Op == 1)) rfl hc107 ?_
     refine NWp.opsJ ⟨tab [(2, .ptr 0 0 0), (3, vb true)], stab [(0, .var [vi 1, vi 0, vh 0, vl0 []])], 1⟩ ?_ ?_
     ·
      refine step (v := vs0 (api_Pol.mk 1 0 0 [])) (st_build (ds := [.int .i64 1, .int .i64 0, .int .u16 0, eL (some 4) eapi_Pol []]) rfl) ?_
      refine step (v := V.undef) (σ' := (upd (stab [(0, bv1 a0), (1, bv0)]) 1 (some (.var [vi 1, vi 0, vh 0, vl0 []])))) (n' := 2) rfl ?_
      refine q1 (vb true) ?_
      exact nR [1]
     obtain ⟨r108, kr108, hr⟩ := mapE (o := some (Sum.inr ((api_Pol.mk 1 0 0 []), true))) (g := Br.ret) h
     subst hr
     have h := kr108
     obtain ⟨r109, kr109, hr⟩ := mapE (o := some ((api_Pol.mk 1 0 0 []), true)) (g := Sum.inr) h
     subst hr
     have h := kr109
     have hh := Option.some.inj h
     subst hh
     refine NWp.ret ?_
     refine And.intro (fun hn => nomatch hn) ?_
     intro hq
     have hq := hq.symm
     subst hq
     refine And.intro (fun hn => nomatch hn) ?_
     intro hq
     have hq := hq.symm
     subst hq
     show FQ _ _ _ _
     exact FQ.mkT (.inr rfl) (res_cell (ds := [.int .i64 1, .int .i64 0, .int .u16 0, eL (some 4) eapi_Pol []]) rfl rfl (show 4 ≤ 4 by decide) rfl (res_t (v := vb true) rfl rfl)) (RV.d (RV.d trivial))
    ·
     replace h := iteF hc107 h
     refine NWp.condF (t := (x106.Op == 1)) rfl hc107 ?_
     refine NWp.skip ?_
     have hh := Option.some.inj h
     subst hh
     refine NWp.opsE ⟨tab [(1, .ptr 0 0 0), (2, .ptr 1 0 0), (4, vl0 a0.Kids), (14, vi (i100 + 1))], stab [(0, bv1 a0), (1, bv0)], 2⟩ ?_ ?_
     ·
      refine q1 (vi i100) ?_
      refine step (v := vi (i100 + 1)) (st_inc (inc_ok hinv103 hgo102 hB101) rfl rfl) ?_
      refine q1 (vi (i100 + 1)) ?_
      exact nR [0, 1]
     exact And.intro rfl rfl
   ·
    rintro i100 ⟨⟩ hinv103 hgo102
    show NWp _ _ _ _ _ ⟨tab [(1, .ptr 0 0 0), (2, .ptr 1 0 0), (4, vl0 a0.Kids), (14, vi i100)], stab [(0, bv1 a0), (1, bv0)], 2⟩
    have hc104 : ¬ (decide (i100 < (a0.Kids.length : Int)) = true) := fun hq => hgo102 (of_decide_eq_true hq)
    refine NWp.seq ?_
    refine NWp.opsJ ⟨tab [(1, .ptr 0 0 0), (2, .ptr 1 0 0), (4, vl0 a0.Kids), (14, vi i100), (222, vb (decide (i100 < (a0.Kids.length : Int))))], stab [(0, bv1 a0), (1, bv0)], 2⟩ ?_ ?_
    ·
     refine q1 (vi i100) ?_
     refine q1 (vl0 a0.Kids) ?_
     refine step (v := vi (a0.Kids.length : Int)) (st_len (xs := a0.Kids) (e := eapi_Pol) rfl) ?_
     refine q1 (vb (decide (i100 < (a0.Kids.length : Int)))) ?_
     exact nR [0, 1]
    refine NWp.condF (t := decide (i100 < (a0.Kids.length : Int))) rfl hc104 ?_
    refine NWp.norm (s0 := ⟨tab [(1, .ptr 0 0 0), (2, .ptr 1 0 0), (4, vl0 a0.Kids)], stab [(0, bv1 a0), (1, bv0)], 2⟩) (nr [0, 1]) ?_
    refine NWp.exit ?_
    exact And.intro rfl rfl
   ·
    intro r' hq
    subst hq
    exact Option.some.inj h
   rintro ⟨⟩ rfl
   have hh := Option.some.inj h
   subst hh
   exact And.intro rfl rfl
  ·
   replace h := iteF hc99 h
   refine NWp.condF (t := y97) rfl hc99 ?_
   have hh := Option.some.inj h
   subst hh
   refine NWp.norm (s0 := ⟨tab [(1, .ptr 0 0 0), (2, .ptr 1 0 0), (4, vl0 a0.Kids)], stab [(0, bv1 a0), (1, bv0)], 2⟩) (nr [0, 1]) ?_
   refine NWp.skip ?_
   exact And.intro rfl rfl
 ·
  intro r' hq
  subst hq
  exact Option.some.inj h
 rintro ⟨⟩ rfl
 show NWp _ _ _ _ _ ⟨tab [(1, .ptr 0 0 0), (2, .ptr 1 0 0), (4, vl0 a0.Kids)], stab [(0, bv1 a0), (1, bv0)], 2⟩
 refine NWp.seq ?_
 refine NWp.opsJ ⟨tab [(1, .ptr 0 0 0), (2, .ptr 1 0 0), (4, vl0 a0.Kids), (244, vb (if (a0.Op == 6) then ((a0.Kids.length : Int) == 1) else ((a0.Op == 7) && ((a0.Kids.length : Int) == 1))))], stab [(0, bv1 a0), (1, bv0)], 2⟩ ?_ ?_
 ·
  refine q1 (.ptr 0 0 0) ?_
  refine q1 (vi a0.Op) ?_
  refine q1 (vb (a0.Op == 6)) ?_
  refine q1 (vb (a0.Op == 6)) ?_
  by_cases hg110 : (a0.Op == 6) = true
  ·
   refine qX (a0.Op == 6) (by rw [hg110]; decide) ?_
   refine qX (a0.Op == 6) (by rw [hg110]; decide) ?_
   refine qX (a0.Op == 6) (by rw [hg110]; decide) ?_
   refine step (v := vb true) (st_pickT (b := (a0.Op == 6)) rfl hg110 rfl) ?_
   refine q1 (vb true) ?_
   refine qG true rfl ?_
   refine q1 (vl0 a0.Kids) ?_
   refine qG true rfl ?_
   refine step (v := vi (a0.Kids.length : Int)) (st_len (xs := a0.Kids) (e := eapi_Pol) rfl) ?_
   refine qG true rfl ?_
   refine q1 (vb ((a0.Kids.length : Int) == 1)) ?_
   refine step (v := vb ((a0.Kids.length : Int) == 1)) (st_pickT (b := true) rfl rfl rfl) ?_
   exact RunOps.nil' (nm [0, 1] ⟨.pt 0, .pt 1, .d _, .eq (by first | (simp [hg110]; done) | (simp_all; done) | grind), trivial⟩ ⟨⟨show 0 < 2 by decide, _, rfl, .vars ⟨.d _, .d _, .d _, .d _, trivial⟩⟩, ⟨show 1 < 2 by decide, _, rfl, .vars ⟨.d _, .d _, .d _, .d _, trivial⟩⟩, trivial⟩)
  ·
   refine qG (a0.Op == 6) (Bool.eq_false_iff.2 hg110) ?_
   refine q1 (.ptr 0 0 0) ?_
   refine qG (a0.Op == 6) (Bool.eq_false_iff.2 hg110) ?_
   refine q1 (vi a0.Op) ?_
   refine qG (a0.Op == 6) (Bool.eq_false_iff.2 hg110) ?_
   refine q1 (vb (a0.Op == 7)) ?_
   refine step (v := vb (a0.Op == 7)) (st_pickF (b := (a0.Op == 6)) rfl hg110 rfl) ?_
   refine q1 (vb (a0.Op == 7)) ?_
   by_cases hg111 : (a0.Op == 7) = true
   ·
    refine qG (a0.Op == 7) hg111 ?_
    refine q1 (vl0 a0.Kids) ?_
    refine qG (a0.Op == 7) hg111 ?_
    refine step (v := vi (a0.Kids.length : Int)) (st_len (xs := a0.Kids) (e := eapi_Pol) rfl) ?_
    refine qG (a0.Op == 7) hg111 ?_
    refine q1 (vb ((a0.Kids.length : Int) == 1)) ?_
    refine step (v := vb ((a0.Kids.length : Int) == 1)) (st_pickT (b := (a0.Op == 7)) rfl hg111 rfl) ?_
    exact RunOps.nil' (nm [0, 1] ⟨.pt 0, .pt 1, .d _, .eq (by first | (simp [hg110, hg111]; done) | (simp_all; done) | grind), trivial⟩ ⟨⟨show 0 < 2 by decide, _, rfl, .vars ⟨.d _, .d _, .d _, .d _, trivial⟩⟩, ⟨show 1 < 2 by decide, _, rfl, .vars ⟨.d _, .d _, .d _, .d _, trivial⟩⟩, trivial⟩)
   ·
    refine qX (a0.Op == 7) hg111 ?_
    refine qX (a0.Op == 7) hg111 ?_
    refine qX (a0.Op == 7) hg111 ?_
    refine step (v := vb false) (st_pickF (b := (a0.Op == 7)) rfl hg111 rfl) ?_
    exact RunOps.nil' (nm [0, 1] ⟨.pt 0, .pt 1, .d _, .eq (by first | (simp [hg110, hg111]; done) | (simp_all; done) | grind), trivial⟩ ⟨⟨show 0 < 2 by decide, _, rfl, .vars ⟨.d _, .d _, .d _, .d _, trivial⟩⟩, ⟨show 1 < 2 by decide, _, rfl, .vars ⟨.d _, .d _, .d _, .d _, trivial⟩⟩, trivial⟩)
 by_cases hc112 : (if (a0.Op == 6) then ((a0.Kids.length : Int) == 1) else ((a0.Op == 7) && ((a0.Kids.length : Int) == 1))) = true
 ·
  replace h := iteT hc112 h
  refine NWp.condT (t := (if (a0.Op == 6) then ((a0.Kids.length : Int) == 1) else ((a0.Op == 7) && ((a0.Kids.length : Int) == 1)))) rfl hc112 ?_
  obtain ⟨x113, hx113, h⟩ := bindE h
  refine NWp.opsJ ⟨tab [(2, .ptr 0 0 0), (3, vb true)], stab [(0, bv1 x113)], 1⟩ ?_ ?_
  ·
   refine q1 (vl0 a0.Kids) ?_
   refine step (v := vp0 x113) (st_iaddrU (xs := a0.Kids) (e := eapi_Pol) hx113 rfl rfl (eu_api_Pol _)) ?_
   refine q1 (vs0 x113) ?_
   refine step (v := V.undef) (σ' := (upd (stab [(0, bv1 a0), (1, bv0)]) 1 (some (bv1 x113)))) (n' := 2) rfl ?_
   refine q1 (vb true) ?_
   exact nR [1]
  have hh := Option.some.inj h
  subst hh
  refine NWp.ret ?_
  show FQ _ _ _ _
  exact FQ.mkT (.inr rfl) (res_cell (ds := [.int .i64 x113.Op, .int .i64 x113.F, .int .u16 x113.N, eL (some 4) eapi_Pol x113.Kids]) rfl rfl (show 4 ≤ 4 by decide) rfl (res_t (v := vb true) rfl rfl)) (RV.d (RV.d trivial))
 ·
  replace h := iteF hc112 h
  refine NWp.condF (t := (if (a0.Op == 6) then ((a0.Kids.length : Int) == 1) else ((a0.Op == 7) && ((a0.Kids.length : Int) == 1)))) rfl hc112 ?_
  refine NWp.skip ?_
  refine NWp.seq ?_
  refine NWp.opsJ ⟨tab [(1, .ptr 0 0 0), (2, .ptr 1 0 0), (4, vl0 a0.Kids), (260, vb (if (a0.Op == 6) then ((a0.Kids.length : Int) == 0) else ((a0.Op == 7) && ((a0.Kids.length : Int) == 0))))], stab [(0, bv1 a0), (1, bv0)], 2⟩ ?_ ?_
  ·
   refine q1 (.ptr 0 0 0) ?_
   refine q1 (vi a0.Op) ?_
   refine q1 (vb (a0.Op == 6)) ?_
   refine q1 (vb (a0.Op == 6)) ?_
   by_cases hg114 : (a0.Op == 6) = true
   ·
    refine qX (a0.Op == 6) (by rw [hg114]; decide) ?_
    refine qX (a0.Op == 6) (by rw [hg114]; decide) ?_
    refine qX (a0.Op == 6) (by rw [hg114]; decide) ?_
    refine step (v := vb true) (st_pickT (b := (a0.Op == 6)) rfl hg114 rfl) ?_
    refine q1 (vb true) ?_
    refine qG true rfl ?_
    refine q1 (vl0 a0.Kids) ?_
    refine qG true rfl ?_
    refine step (v := vi (a0.Kids.length : Int)) (st_len (xs := a0.Kids) (e := eapi_Pol) rfl) ?_
    refine qG true rfl ?_
    refine q1 (vb ((a0.Kids.length : Int) == 0)) ?_
    refine step (v := vb ((a0.Kids.length : Int) == 0)) (st_pickT (b := true) rfl rfl rfl) ?_
    exact RunOps.nil' (nm [0, 1] ⟨.pt 0, .pt 1, .d _, .eq (by first | (simp [hg114]; done) | (simp_all; done) | grind), trivial⟩ ⟨⟨show 0 < 2 by decide, _, rfl, .vars ⟨.d _, .d _, .d _, .d _, trivial⟩⟩, ⟨show 1 < 2 by decide, _, rfl, .vars ⟨.d _, .d _, .d _, .d _, trivial⟩⟩, trivial⟩)
   ·
    refine qG (a0.Op == 6) (Bool.eq_false_iff.2 hg114) ?_
    refine q1 (.ptr 0 0 0) ?_
    refine qG (a0.Op == 6) (Bool.eq_false_iff.2 hg114) ?_
    refine q1 (vi a0.Op) ?_
    refine qG (a0.Op == 6) (Bool.eq_false_iff.2 hg114) ?_
    refine q1 (vb (a0.Op == 7)) ?_
    refine step (v := vb (a0.Op == 7)) (st_pickF (b := (a0.Op == 6)) rfl hg114 rfl) ?_
    refine q1 (vb (a0.Op == 7)) ?_
    by_cases hg115 : (a0.Op == 7) = true
    ·
     refine qG (a0.Op == 7) hg115 ?_
     refine q1 (vl0 a0.Kids) ?_
     refine qG (a0.Op == 7) hg115 ?_
     refine step (v := vi (a0.Kids.length : Int)) (st_len (xs := a0.Kids) (e := eapi_Pol) rfl) ?_
     refine qG (a0.Op == 7) hg115 ?_
     refine q1 (vb ((a0.Kids.length : Int) == 0)) ?_
     refine step (v := vb ((a0.Kids.length : Int) == 0)) (st_pickT (b := (a0.Op == 7)) rfl hg115 rfl) ?_
     exact RunOps.nil' (nm [0, 1] ⟨.pt 0, .pt 1, .d _, .eq (by first | (simp [hg114, hg115]; done) | (simp_all; done) | grind), trivial⟩ ⟨⟨show 0 < 2 by decide, _, rfl, .vars ⟨.d _, .d _, .d _, .d _, trivial⟩⟩, ⟨show 1 < 2 by decide, _, rfl, .vars ⟨.d _, .d _, .d _, .d _, trivial⟩⟩, trivial⟩)
    ·
     refine qX (a0.Op == 7) hg115 ?_
     refine qX (a0.Op == 7) hg115 ?_
     refine qX (a0.Op == 7) hg115 ?_
     refine step (v := vb false) (st_pickF (b := (a0.Op == 7)) rfl hg115 rfl) ?_
     exact RunOps.nil' (nm [0, 1] ⟨.pt 0, .pt 1, .d _, .eq (by first | (simp [hg114, hg115]; done) | (simp_all; done) | grind), trivial⟩ ⟨⟨show 0 < 2 by decide, _, rfl, .vars ⟨.d _, .d _, .d _, .d _, trivial⟩⟩, ⟨show 1 < 2 by decide, _, rfl, .vars ⟨.d _, .d _, .d _, .d _, trivial⟩⟩, trivial⟩)
  by_cases hc116 : (if (a0.Op == 6) then ((a0.Kids.length : Int) == 0) else ((a0.Op == 7) && ((a0.Kids.length : Int) == 0))) = true
  ·
   replace h := iteT hc116 h
   refine NWp.condT (t := (if (a0.Op == 6) then ((a0.Kids.length : Int) == 0) else ((a0.Op == 7) && ((a0.Kids.length : Int) == 0)))) rfl hc116 ?_
   refine NWp.opsJ ⟨tab [(2, .ptr 0 0 0), (3, vb true)], stab [(0, .var [vi (IntKind.i64.wrap (7 - a0.Op)), vi 0, vh 0, vl0 []])], 1⟩ ?_ ?_
   ·
    refine q1 (.ptr 0 0 0) ?_
    refine q1 (vi a0.Op) ?_
    refine q1 (vi (IntKind.i64.wrap (7 - a0.Op))) ?_
    refine step (v := vs0 (api_Pol.mk (IntKind.i64.wrap (7 - a0.Op)) 0 0 [])) (st_build (ds := [.int .i64 (IntKind.i64.wrap (7 - a0.Op)), .int .i64 0, .int .u16 0, eL (some 4) eapi_Pol []]) rfl) ?_
    refine step (v := V.undef) (σ' := (upd (stab [(0, bv1 a0), (1, bv0)]) 1 (some (.var [vi (IntKind.i64.wrap (7 - a0.Op)), vi 0, vh 0, vl0 []])))) (n' := 2) rfl ?_
    refine q1 (vb true) ?_
    exact nR [1]
   have hh := Option.some.inj h
   subst hh
   refine NWp.ret ?_
   show FQ _ _ _ _
   exact FQ.mkT (.inr rfl) (res_cell (ds := [.int .i64 (IntKind.i64.wrap (7 - a0.Op)), .int .i64 0, .int .u16 0, eL (some 4) eapi_Pol []]) rfl rfl (show 4 ≤ 4 by decide) rfl (res_t (v := vb true) rfl rfl)) (RV.d (RV.d trivial))
  ·
   replace h := iteF hc116 h
   refine NWp.condF (t := (if (a0.Op == 6) then ((a0.Kids.length : Int) == 0) else ((a0.Op == 7) && ((a0.Kids.length : Int) == 0)))) rfl hc116 ?_
   refine NWp.skip ?_
   refine NWp.seq ?_
   obtain ⟨y119, hv, h⟩ := bindE h
   refine NWp.opsJ ⟨tab [(1, .ptr 0 0 0), (2, .ptr 1 0 0), (4, vl0 a0.Kids), (274, vb y119)], stab [(0, bv1 a0), (1, bv0)], 2⟩ ?_ ?_
   ·
    refine q1 (.ptr 0 0 0) ?_
    refine q1 (vi a0.Op) ?_
    refine q1 (vb (a0.Op == 4)) ?_
    refine q1 (vb (a0.Op == 4)) ?_
    by_cases hg117 : (a0.Op == 4) = true
    ·
     replace hv := iteT hg117 hv
     obtain ⟨x118, hx118, hv⟩ := bindE hv
     refine qG (a0.Op == 4) hg117 ?_
     refine q1 (vl0 a0.Kids) ?_
     refine qG (a0.Op == 4) hg117 ?_
     refine step (v := vp0 x118) (st_iaddrU (xs := a0.Kids) (e := eapi_Pol) hx118 rfl rfl (eu_api_Pol _)) ?_
     refine qG (a0.Op == 4) hg117 ?_
     refine q1 (vp0 x118) ?_
     refine qG (a0.Op == 4) hg117 ?_
     refine q1 (vi x118.Op) ?_
     refine qG (a0.Op == 4) hg117 ?_
     refine q1 (vb (decide (x118.Op < 2))) ?_
     refine step (v := vb (decide (x118.Op < 2))) (st_pickT (b := (a0.Op == 4)) rfl hg117 rfl) ?_
     have hh := Option.some.inj hv
     subst hh
     exact nR [0, 1]
    ·
     replace hv := iteF hg117 hv
     refine qX (a0.Op == 4) hg117 ?_
     refine qX (a0.Op == 4) hg117 ?_
     refine qX (a0.Op == 4) hg117 ?_
     refine qX (a0.Op == 4) hg117 ?_
     refine qX (a0.Op == 4) hg117 ?_
     refine step (v := vb false) (st_pickF (b := (a0.Op == 4)) rfl hg117 rfl) ?_
     have hh := Option.some.inj hv
     subst hh
     exact nR [0, 1]
   by_cases hc121 : y119 = true
   ·
    replace h := iteT hc121 h
    refine NWp.condT (t := y119) rfl hc121 ?_
    obtain ⟨x122, hx122, h⟩ := bindE h
    refine NWp.opsJ ⟨tab [(2, .ptr 0 0 0), (3, vb true)], stab [(0, .var [vi (IntKind.i64.wrap (1 - x122.Op)), vi 0, vh 0, vl0 []])], 1⟩ ?_ ?_
    ·
     refine q1 (vl0 a0.Kids) ?_
     refine step (v := vp0 x122) (st_iaddrU (xs := a0.Kids) (e := eapi_Pol) hx122 rfl rfl (eu_api_Pol _)) ?_
     refine q1 (vp0 x122) ?_
     refine q1 (vi x122.Op) ?_
     refine q1 (vi (IntKind.i64.wrap (1 - x122.Op))) ?_
     refine step (v := vs0 (api_Pol.mk (IntKind.i64.wrap (1 - x122.Op)) 0 0 [])) (st_build (ds := [.int .i64 (IntKind.i64.wrap (1 - x122.Op)), .int .i64 0, .int .u16 0, eL (some 4) eapi_Pol []]) rfl) ?_
     refine step (v := V.undef) (σ' := (upd (stab [(0, bv1 a0), (1, bv0)]) 1 (some (.var [vi (IntKind.i64.wrap (1 - x122.Op)), vi 0, vh 0, vl0 []])))) (n' := 2) rfl ?_
     refine q1 (vb true) ?_
     exact nR [1]
    have hh := Option.some.inj h
    subst hh
    refine NWp.ret ?_
    show FQ _ _ _ _
    exact FQ.mkT (.inr rfl) (res_cell (ds := [.int .i64 (IntKind.i64.wrap (1 - x122.Op)), .int .i64 0, .int .u16 0, eL (some 4) eapi_Pol []]) rfl rfl (show 4 ≤ 4 by decide) rfl (res_t (v := vb true) rfl rfl)) (RV.d (RV.d trivial))
   ·
    replace h := iteF hc121 h
    refine NWp.condF (t := y119) rfl hc121 ?_
    refine NWp.skip ?_
    refine NWp.seq ?_
    obtain ⟨y125, hv, h⟩ := bindE h
    refine NWp.opsJ ⟨tab [(1, .ptr 0 0 0), (2, .ptr 1 0 0), (4, vl0 a0.Kids), (290, vb y125)], stab [(0, bv1 a0), (1, bv0)], 2⟩ ?_ ?_
    ·
     refine q1 (.ptr 0 0 0) ?_
     refine q1 (vi a0.Op) ?_
     refine q1 (vb (a0.Op == 4)) ?_
     refine q1 (vb (a0.Op == 4)) ?_
     by_cases hg123 : (a0.Op == 4) = true
     ·
      replace hv := iteT hg123 hv
      obtain ⟨x124, hx124, hv⟩ := bindE hv
      refine qG (a0.Op == 4) hg123 ?_
      refine q1 (vl0 a0.Kids) ?_
      refine qG (a0.Op == 4) hg123 ?_
      refine step (v := vp0 x124) (st_iaddrU (xs := a0.Kids) (e := eapi_Pol) hx124 rfl rfl (eu_api_Pol _)) ?_
      refine qG (a0.Op == 4) hg123 ?_
      refine q1 (vp0 x124) ?_
      refine qG (a0.Op == 4) hg123 ?_
      refine q1 (vi x124.Op) ?_
      refine qG (a0.Op == 4) hg123 ?_
      refine q1 (vb (x124.Op == 4)) ?_
      refine step (v := vb (x124.Op == 4)) (st_pickT (b := (a0.Op == 4)) rfl hg123 rfl) ?_
      have hh := Option.some.inj hv
      subst hh
      exact nR [0, 1]
     ·
      replace hv := iteF hg123 hv
      refine qX (a0.Op == 4) hg123 ?_
      refine qX (a0.Op == 4) hg123 ?_
      refine qX (a0.Op == 4) hg123 ?_
      refine qX (a0.Op == 4) hg123 ?_
      refine qX (a0.Op == 4) hg123 ?_
      refine step (v := vb false) (st_pickF (b := (a0.Op == 4)) rfl hg123 rfl) ?_
      have hh := Option.some.inj hv
      subst hh
      exact nR [0, 1]
    by_cases hc127 : y125 = true
    ·
     replace h := iteT hc127 h
     refine NWp.condT (t := y125) rfl hc127 ?_
     obtain ⟨x128, hx128, h⟩ := bindE h
     obtain ⟨x129, hx129, h⟩ := bindE h
     refine NWp.opsJ ⟨tab [(2, .ptr 0 0 0), (3, vb true)], stab [(0, bv1 x129)], 1⟩ ?_ ?_
     ·
      refine q1 (vl0 a0.Kids) ?_
      refine step (v := vp0 x128) (st_iaddrU (xs := a0.Kids) (e := eapi_Pol) hx128 rfl rfl (eu_api_Pol _)) ?_
      refine q1 (.d (.cptr (some 4) (uapi_Pol x128) 3)) ?_
      refine q1 (vl0 x128.Kids) ?_
      refine step (v := vp0 x129) (st_iaddrU (xs := x128.Kids) (e := eapi_Pol) hx129 rfl rfl (eu_api_Pol _)) ?_
      refine q1 (vs0 x129) ?_
      refine step (v := V.undef) (σ' := (upd (stab [(0, bv1 a0), (1, bv0)]) 1 (some (bv1 x129)))) (n' := 2) rfl ?_
      refine q1 (vb true) ?_
      exact nR [1]
     have hh := Option.some.inj h
     subst hh
     refine NWp.ret ?_
     show FQ _ _ _ _
     exact FQ.mkT (.inr rfl) (res_cell (ds := [.int .i64 x129.Op, .int .i64 x129.F, .int .u16 x129.N, eL (some 4) eapi_Pol x129.Kids]) rfl rfl (show 4 ≤ 4 by decide) rfl (res_t (v := vb true) rfl rfl)) (RV.d (RV.d trivial))
    ·
     replace h := iteF hc127 h
     refine NWp.condF (t := y125) rfl hc127 ?_
     refine NWp.skip ?_
     refine NWp.opsJ ⟨tab [(2, .ptr 0 0 0), (3, vb false)], stab [(0, bv1 a0)], 1⟩ ?_ ?_
     ·
      refine step (v := vs0 a0) (st_ldV (ds := [.int .i64 a0.Op, .int .i64 a0.F, .int .u16 a0.N, eL (some 4) eapi_Pol a0.Kids]) rfl rfl (show 4 ≤ 4 by decide) rfl) ?_
      refine step (v := V.undef) (σ' := (upd (stab [(0, bv1 a0), (1, bv0)]) 1 (some (bv1 a0)))) (n' := 2) rfl ?_
      refine q1 (vb false) ?_
      exact nR [1]
     have hh := Option.some.inj h
     subst hh
     refine NWp.ret ?_
     show FQ _ _ _ _
     exact FQ.mkT (.inr rfl) (res_cell (ds := [.int .i64 a0.Op, .int .i64 a0.F, .int .u16 a0.N, eL (some 4) eapi_Pol a0.Kids]) rfl rfl (show 4 ≤ 4 by decide) rfl (res_t (v := vb false) rfl rfl)) (RV.d (RV.d trivial))


end Go.AM
