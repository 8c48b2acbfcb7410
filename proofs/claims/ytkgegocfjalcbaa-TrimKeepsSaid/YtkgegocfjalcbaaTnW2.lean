import Derived.Test.YtkgegocfjalcbaaTnW1
/-  What they are in the program: walks. -/
set_option linter.unusedVariables false
set_option linter.unusedSimpArgs false
namespace Go.AM
open Go Go.RowKit Go.Proofs

attribute [local irreducible] RunOps RunOpsL

theorem c_law05_Pile {a0 : (List law05_Step)} {r : (api_Pol × Bool)} (h : law05_Pile a0 = some r) : PCall Try.prog 36 [eL (some 4) elaw05_Step a0] (.tup [uapi_Pol r.1, .bool r.2]) := by
 refine PCall.introN ok36 (show 1 ≤ 123 by decide) ?_
 refine NWp.norm (s0 := ⟨tab [(0, vl3 a0)], stab [], 0⟩) (nr []) ?_
 refine NWp.opsJ ⟨tab [(0, vl3 a0), (2, .ptr 0 0 0)], stab [(0, .var [vi 0, vi 0, .d (.int .u16 0), vl0 []])], 1⟩ ?_ ?_
 ·
  refine step (v := .ptr 0 0 0) (σ' := (upd (stab []) 0 (some (.var [vi 0, vi 0, .d (.int .u16 0), vl0 []])))) (n' := 1) rfl ?_
  refine q1 (vb false) ?_
  exact nR [0]
 refine NWp.seq ?_
 refine NWp.opsJ ⟨tab [(0, vl3 a0), (2, .ptr 0 0 0), (12, vb (decide ((a0.length : Int) > 60)))], stab [(0, .var [vi 0, vi 0, .d (.int .u16 0), vl0 []])], 1⟩ ?_ ?_
 ·
  refine q1 (vl3 a0) ?_
  refine step (v := vi (a0.length : Int)) (st_len (xs := a0) (e := elaw05_Step) rfl) ?_
  refine q1 (vb (decide ((a0.length : Int) > 60))) ?_
  exact nR [0]
 by_cases hc1 : decide ((a0.length : Int) > 60) = true
 ·
  replace h := iteT hc1 h
  refine NWp.condT (t := decide ((a0.length : Int) > 60)) rfl hc1 ?_
  refine NWp.opsJ ⟨tab [(2, .ptr 0 0 0), (3, vb false)], stab [(0, .var [vi 0, vi 0, .d (.int .u16 0), vl0 []])], 1⟩ ?_ ?_
  ·
   refine step (v := .d (uapi_Pol (api_Pol.mk 0 0 0 []))) (st_build (ds := [.int .i64 0, .int .i64 0, .int .u16 0, eL (some 4) eapi_Pol []]) rfl) ?_
   refine step (v := V.undef) (σ' := (upd (stab [(0, .var [vi 0, vi 0, .d (.int .u16 0), vl0 []])]) 0 (some (.var [vi 0, vi 0, .d (.int .u16 0), vl0 []])))) (n' := 1) rfl ?_
   refine q1 (vb false) ?_
   exact nR [0]
  have hh := Option.some.inj h
  subst hh
  refine NWp.ret ?_
  show FQ _ _ _ _
  exact FQ.mkT (.inr rfl) (res_cell (ds := [.int .i64 0, .int .i64 0, .int .u16 0, eL (some 4) eapi_Pol []]) rfl rfl (show 4 ≤ 4 by decide) rfl (res_t (v := vb false) rfl rfl)) (RV.d (RV.d trivial))
 ·
  replace h := iteF hc1 h
  refine NWp.condF (t := decide ((a0.length : Int) > 60)) rfl hc1 ?_
  refine NWp.skip ?_
  refine NWp.opsJ ⟨tab [(0, vl3 a0), (2, .ptr 0 0 0), (4, .d (.nils))], stab [(0, .var [vi 0, vi 0, .d (.int .u16 0), vl0 []])], 1⟩ ?_ ?_
  ·
   refine q1 (.d (.nils)) ?_
   exact nR [0]
  refine NWp.seq ?_
  refine NWp.opsJ ⟨tab [(2, .ptr 0 0 0), (4, .d (.nils)), (14, vl3 a0), (15, vi (a0.length : Int)), (16, vi 0)], stab [(0, .var [vi 0, vi 0, .d (.int .u16 0), vl0 []])], 1⟩ ?_ ?_
  ·
   refine q1 (vl3 a0) ?_
   refine step (v := vi (a0.length : Int)) (st_len (xs := a0) (e := elaw05_Step) rfl) ?_
   refine q1 (vi 0) ?_
   exact nR [0]
  obtain ⟨z29, hl, h⟩ := bindE h
  refine NWp.norm (s0 := ⟨tab [(2, .ptr 0 0 0), (4, .loc 1 0 (([] : List api_Pol).length)), (14, vl3 a0), (15, vi (a0.length : Int)), (16, vi 0)], stab [(0, .var [vi 0, vi 0, .d (.int .u16 0), vl0 []]), (1, .lst true (some 4) (List.map eapi_Pol ([] : List api_Pol)))], 2⟩) (Norm.trans (s2 := ⟨tab [(2, .ptr 0 0 0), (4, .loc 1 0 (([] : List api_Pol).length)), (14, vl3 a0), (15, vi (a0.length : Int)), (16, vi 0)], stab [(0, .var [vi 0, vi 0, .d (.int .u16 0), vl0 []]), (1, .lst true (some 4) (List.map eapi_Pol ([] : List api_Pol)))], 2⟩) (Norm.nil1 4 true (some 4) rfl) (nr [0, 1])) ?_
  refine NWp.block ?_
  refine loop_forO (cntU (a0.length : Int)) (fun (i3 : Int) (qq : (List api_Pol)) => ⟨tab [(2, .ptr 0 0 0), (4, .loc 1 0 qq.length), (14, vl3 a0), (15, vi (a0.length : Int)), (16, vi i3)], stab [(0, .var [vi 0, vi 0, .d (.int .u16 0), vl0 []]), (1, .lst true (some 4) (List.map eapi_Pol qq))], 2⟩) 0 (fun (qq : (List api_Pol)) => ⟨tab [(2, .ptr 0 0 0), (4, vl0 qq)], stab [(0, .var [vi 0, vi 0, .d (.int .u16 0), vl0 []])], 1⟩) Low low_step hl (by unfold Low; omega) ?_ ?_ ?_
  ·
   rintro i3 l2 xr8 hinv6 hgo5 h
   show NWp _ _ _ _ _ ⟨tab [(2, .ptr 0 0 0), (4, .loc 1 0 l2.length), (14, vl3 a0), (15, vi (a0.length : Int)), (16, vi i3)], stab [(0, .var [vi 0, vi 0, .d (.int .u16 0), vl0 []]), (1, .lst true (some 4) (List.map eapi_Pol l2))], 2⟩
   have hc7 : decide (i3 < (a0.length : Int)) = true := decide_eq_true hgo5
   refine NWp.opsJ ⟨tab [(2, .ptr 0 0 0), (4, .loc 1 0 l2.length), (14, vl3 a0), (15, vi (a0.length : Int)), (16, vi i3), (17, vb (decide (i3 < (a0.length : Int))))], stab [(0, .var [vi 0, vi 0, .d (.int .u16 0), vl0 []]), (1, .lst true (some 4) (List.map eapi_Pol l2))], 2⟩ ?_ ?_
   ·
    refine q1 (vb (decide (i3 < (a0.length : Int)))) ?_
    exact nR [0, 1]
   refine NWp.rng 15 rfl fun hB4 => ?_
   refine NWp.seq ?_
   refine NWp.condT (t := decide (i3 < (a0.length : Int))) rfl hc7 ?_
   refine NWp.skip ?_
   obtain ⟨l27, hv, h⟩ := bindE h
   refine NWp.seqN ⟨tab [(2, .ptr 0 0 0), (4, .loc 1 0 l27.length), (14, vl3 a0), (15, vi (a0.length : Int)), (16, vi i3)], stab [(0, .var [vi 0, vi 0, .d (.int .u16 0), vl0 []]), (1, .lst true (some 4) (List.map eapi_Pol l27))], 2⟩ ?_ ?_
   ·
    replace h := hv
    refine NWp.block ?_
    obtain ⟨x9, hx9, h⟩ := bindE h
    refine NWp.opsJ ⟨tab [(2, .ptr 0 0 0), (4, .loc 1 0 l2.length), (6, .ptr 2 0 0), (14, vl3 a0), (15, vi (a0.length : Int)), (16, vi i3)], stab [(0, .var [vi 0, vi 0, .d (.int .u16 0), vl0 []]), (1, .lst true (some 4) (List.map eapi_Pol l2)), (2, .var [vi x9.What, vi x9.F, .d (.int .u16 x9.N), .d (.int .u8 x9.K)])], 3⟩ ?_ ?_
    ·
     refine step (v := .d (.cptr (some 4) (elaw05_Step x9) 0)) (st_iaddr (xs := a0) (e := elaw05_Step) hx9 rfl rfl) ?_
     refine q1 (.d (elaw05_Step x9)) ?_
     refine step (v := .ptr 2 0 0) (σ' := (upd (stab [(0, .var [vi 0, vi 0, .d (.int .u16 0), vl0 []]), (1, .lst true (some 4) (List.map eapi_Pol l2))]) 2 (some (.var [vi 0, vi 0, .d (.int .u16 0), .d (.int .u8 0)])))) (n' := 3) rfl ?_
     refine step (v := V.undef) (σ' := (upd (upd (stab [(0, .var [vi 0, vi 0, .d (.int .u16 0), vl0 []]), (1, .lst true (some 4) (List.map eapi_Pol l2))]) 2 (some (.var [vi 0, vi 0, .d (.int .u16 0), .d (.int .u8 0)]))) 2 (some (.var [vi x9.What, vi x9.F, .d (.int .u16 x9.N), .d (.int .u8 x9.K)])))) (n' := 3) rfl ?_
     exact nR [0, 1, 2]
    refine NWp.opsJ ⟨tab [(2, .ptr 0 0 0), (4, .loc 1 0 l2.length), (6, .ptr 2 0 0), (7, vi (l2.length : Int)), (14, vl3 a0), (15, vi (a0.length : Int)), (16, vi i3)], stab [(0, .var [vi 0, vi 0, .d (.int .u16 0), vl0 []]), (1, .lst true (some 4) (List.map eapi_Pol l2)), (2, .var [vi x9.What, vi x9.F, .d (.int .u16 x9.N), .d (.int .u8 x9.K)])], 3⟩ ?_ ?_
    ·
     refine q1 (.loc 1 0 l2.length) ?_
     refine q1 (vi (l2.length : Int)) ?_
     refine q1 (vi (l2.length : Int)) ?_
     exact nR [0, 1, 2]
    refine NWp.block ?_
    refine NWp.opsJ ⟨tab [(2, .ptr 0 0 0), (4, .loc 1 0 l2.length), (6, .ptr 2 0 0), (7, vi (l2.length : Int)), (14, vl3 a0), (15, vi (a0.length : Int)), (16, vi i3), (22, vb ((x9.What == 0) || (x9.What == 1)))], stab [(0, .var [vi 0, vi 0, .d (.int .u16 0), vl0 []]), (1, .lst true (some 4) (List.map eapi_Pol l2)), (2, .var [vi x9.What, vi x9.F, .d (.int .u16 x9.N), .d (.int .u8 x9.K)])], 3⟩ ?_ ?_
    ·
     refine q1 (.ptr 2 0 0) ?_
     refine q1 (vi x9.What) ?_
     refine q1 (vb (x9.What == 0)) ?_
     refine q1 (vb (x9.What == 0)) ?_
     by_cases hg10 : (x9.What == 0) = true
     ·
      refine qX (x9.What == 0) (by rw [hg10]; decide) ?_
      refine qX (x9.What == 0) (by rw [hg10]; decide) ?_
      refine qX (x9.What == 0) (by rw [hg10]; decide) ?_
      refine step (v := vb true) (st_pickT (b := (x9.What == 0)) rfl hg10 rfl) ?_
      refine q1 (vb true) ?_
      exact RunOps.nil' (nm [0, 1, 2] ⟨.pt 0, .lc 1, .pt 2, .d _, .d _, .d _, .d _, .eq (by first | (simp [hg10]; done) | (simp_all; done) | grind), trivial⟩ ⟨⟨show 0 < 3 by decide, _, rfl, .vars ⟨.d _, .d _, .d _, .d _, trivial⟩⟩, ⟨show 1 < 3 by decide, _, rfl, .lst _ _ _⟩, ⟨show 2 < 3 by decide, _, rfl, .vars ⟨.d _, .d _, .d _, .d _, trivial⟩⟩, trivial⟩)
     ·
      refine qG (x9.What == 0) (Bool.eq_false_iff.2 hg10) ?_
      refine q1 (.ptr 2 0 0) ?_
      refine qG (x9.What == 0) (Bool.eq_false_iff.2 hg10) ?_
      refine q1 (vi x9.What) ?_
      refine qG (x9.What == 0) (Bool.eq_false_iff.2 hg10) ?_
      refine q1 (vb (x9.What == 1)) ?_
      refine step (v := vb (x9.What == 1)) (st_pickF (b := (x9.What == 0)) rfl hg10 rfl) ?_
      refine q1 (vb (x9.What == 1)) ?_
      exact RunOps.nil' (nm [0, 1, 2] ⟨.pt 0, .lc 1, .pt 2, .d _, .d _, .d _, .d _, .eq (by first | (simp [hg10]; done) | (simp_all; done) | grind), trivial⟩ ⟨⟨show 0 < 3 by decide, _, rfl, .vars ⟨.d _, .d _, .d _, .d _, trivial⟩⟩, ⟨show 1 < 3 by decide, _, rfl, .lst _ _ _⟩, ⟨show 2 < 3 by decide, _, rfl, .vars ⟨.d _, .d _, .d _, .d _, trivial⟩⟩, trivial⟩)
    by_cases hc11 : ((x9.What == 0) || (x9.What == 1)) = true
    ·
     replace h := iteT hc11 h
     refine NWp.condT (t := ((x9.What == 0) || (x9.What == 1))) rfl hc11 ?_
     obtain ⟨l12, hl12, h⟩ := bindE h
     have hh := Option.some.inj h
     subst hh
     refine NWp.opsE ⟨tab [(2, .ptr 0 0 0), (4, .loc 1 0 l12.length), (14, vl3 a0), (15, vi (a0.length : Int)), (16, vi i3)], stab [(0, .var [vi 0, vi 0, .d (.int .u16 0), vl0 []]), (1, .lst true (some 4) (List.map eapi_Pol l12))], 2⟩ ?_ ?_
     ·
      refine q1 (.loc 1 0 l2.length) ?_
      refine q1 (.ptr 2 0 0) ?_
      refine q1 (vi x9.What) ?_
      refine step (v := .d (uapi_Pol (api_Pol.mk x9.What 0 0 []))) (st_build (ds := [.int .i64 x9.What, .int .i64 0, .int .u16 0, eL (some 4) eapi_Pol []]) rfl) ?_
      refine step (v := vl0 ([(api_Pol.mk x9.What 0 0 [])] : List api_Pol)) (st_eq rfl (by simp [eL, eu_api_Pol])) ?_
      refine step (v := .loc 3 0 l12.length) (σ' := (upd (upd (stab [(0, .var [vi 0, vi 0, .d (.int .u16 0), vl0 []]), (1, .lst true (some 4) (List.map eapi_Pol l2)), (2, .var [vi x9.What, vi x9.F, .d (.int .u16 x9.N), .d (.int .u8 x9.K)])]) 1 none) 3 (some (.lst true (some 4) (List.map eapi_Pol l12))))) (n' := 4) (st_app (xs := l2) (ys := ([(api_Pol.mk x9.What 0 0 [])] : List api_Pol)) (e := eapi_Pol) hl12 rfl rfl rfl (src_v (xs := ([(api_Pol.mk x9.What 0 0 [])] : List api_Pol)) (e := eapi_Pol) rfl)) ?_
      refine q1 (.loc 3 0 l12.length) ?_
      exact nR [0, 3]
     exact And.intro rfl rfl
    ·
     replace h := iteF hc11 h
     refine NWp.condF (t := ((x9.What == 0) || (x9.What == 1))) rfl hc11 ?_
     refine NWp.opsJ ⟨tab [(2, .ptr 0 0 0), (4, .loc 1 0 l2.length), (6, .ptr 2 0 0), (7, vi (l2.length : Int)), (14, vl3 a0), (15, vi (a0.length : Int)), (16, vi i3), (37, vb ((x9.What == 2) || ((x9.What == 3) || (x9.What == 5))))], stab [(0, .var [vi 0, vi 0, .d (.int .u16 0), vl0 []]), (1, .lst true (some 4) (List.map eapi_Pol l2)), (2, .var [vi x9.What, vi x9.F, .d (.int .u16 x9.N), .d (.int .u8 x9.K)])], 3⟩ ?_ ?_
     ·
      refine q1 (.ptr 2 0 0) ?_
      refine q1 (vi x9.What) ?_
      refine q1 (vb (x9.What == 2)) ?_
      refine q1 (vb (x9.What == 2)) ?_
      by_cases hg13 : (x9.What == 2) = true
      ·
       refine qX (x9.What == 2) (by rw [hg13]; decide) ?_
       refine qX (x9.What == 2) (by rw [hg13]; decide) ?_
       refine qX (x9.What == 2) (by rw [hg13]; decide) ?_
       refine step (v := vb true) (st_pickT (b := (x9.What == 2)) rfl hg13 rfl) ?_
       refine q1 (vb true) ?_
       refine qX true (by decide) ?_
       refine qX true (by decide) ?_
       refine qX true (by decide) ?_
       refine step (v := vb true) (st_pickT (b := true) rfl rfl rfl) ?_
       refine q1 (vb true) ?_
       exact RunOps.nil' (nm [0, 1, 2] ⟨.pt 0, .lc 1, .pt 2, .d _, .d _, .d _, .d _, .eq (by first | (simp [hg13]; done) | (simp_all; done) | grind), trivial⟩ ⟨⟨show 0 < 3 by decide, _, rfl, .vars ⟨.d _, .d _, .d _, .d _, trivial⟩⟩, ⟨show 1 < 3 by decide, _, rfl, .lst _ _ _⟩, ⟨show 2 < 3 by decide, _, rfl, .vars ⟨.d _, .d _, .d _, .d _, trivial⟩⟩, trivial⟩)
      ·
       refine qG (x9.What == 2) (Bool.eq_false_iff.2 hg13) ?_
       refine q1 (.ptr 2 0 0) ?_
       refine qG (x9.What == 2) (Bool.eq_false_iff.2 hg13) ?_
       refine q1 (vi x9.What) ?_
       refine qG (x9.What == 2) (Bool.eq_false_iff.2 hg13) ?_
       refine q1 (vb (x9.What == 3)) ?_
       refine step (v := vb (x9.What == 3)) (st_pickF (b := (x9.What == 2)) rfl hg13 rfl) ?_
       refine q1 (vb (x9.What == 3)) ?_
       by_cases hg14 : (x9.What == 3) = true
       ·
        refine qX (x9.What == 3) (by rw [hg14]; decide) ?_
        refine qX (x9.What == 3) (by rw [hg14]; decide) ?_
        refine qX (x9.What == 3) (by rw [hg14]; decide) ?_
        refine step (v := vb true) (st_pickT (b := (x9.What == 3)) rfl hg14 rfl) ?_
        refine q1 (vb true) ?_
        exact RunOps.nil' (nm [0, 1, 2] ⟨.pt 0, .lc 1, .pt 2, .d _, .d _, .d _, .d _, .eq (by first | (simp [hg13, hg14]; done) | (simp_all; done) | grind), trivial⟩ ⟨⟨show 0 < 3 by decide, _, rfl, .vars ⟨.d _, .d _, .d _, .d _, trivial⟩⟩, ⟨show 1 < 3 by decide, _, rfl, .lst _ _ _⟩, ⟨show 2 < 3 by decide, _, rfl, .vars ⟨.d _, .d _, .d _, .d _, trivial⟩⟩, trivial⟩)
       ·
        refine qG (x9.What == 3) (Bool.eq_false_iff.2 hg14) ?_
        refine q1 (.ptr 2 0 0) ?_
        refine qG (x9.What == 3) (Bool.eq_false_iff.2 hg14) ?_
        refine q1 (vi x9.What) ?_
        refine qG (x9.What == 3) (Bool.eq_false_iff.2 hg14) ?_
        refine q1 (vb (x9.What == 5)) ?_
        refine step (v := vb (x9.What == 5)) (st_pickF (b := (x9.What == 3)) rfl hg14 rfl) ?_
        refine q1 (vb (x9.What == 5)) ?_
        exact RunOps.nil' (nm [0, 1, 2] ⟨.pt 0, .lc 1, .pt 2, .d _, .d _, .d _, .d _, .eq (by first | (simp [hg13, hg14]; done) | (simp_all; done) | grind), trivial⟩ ⟨⟨show 0 < 3 by decide, _, rfl, .vars ⟨.d _, .d _, .d _, .d _, trivial⟩⟩, ⟨show 1 < 3 by decide, _, rfl, .lst _ _ _⟩, ⟨show 2 < 3 by decide, _, rfl, .vars ⟨.d _, .d _, .d _, .d _, trivial⟩⟩, trivial⟩)
     by_cases hc15 : ((x9.What == 2) || ((x9.What == 3) || (x9.What == 5))) = true
     ·
      replace h := iteT hc15 h
      refine NWp.condT (t := ((x9.What == 2) || ((x9.What == 3) || (x9.What == 5)))) rfl hc15 ?_
      obtain ⟨l16, hl16, h⟩ := bindE h
      have hh := Option.some.inj h
      subst hh
      refine NWp.opsE ⟨tab [(2, .ptr 0 0 0), (4, .loc 1 0 l16.length), (14, vl3 a0), (15, vi (a0.length : Int)), (16, vi i3)], stab [(0, .var [vi 0, vi 0, .d (.int .u16 0), vl0 []]), (1, .lst true (some 4) (List.map eapi_Pol l16))], 2⟩ ?_ ?_
      ·
       refine q1 (.loc 1 0 l2.length) ?_
       refine q1 (.ptr 2 0 0) ?_
       refine q1 (vi x9.What) ?_
       refine q1 (.ptr 2 0 1) ?_
       refine q1 (vi x9.F) ?_
       refine q1 (.ptr 2 0 2) ?_
       refine q1 (.d (.int .u16 x9.N)) ?_
       refine step (v := .d (uapi_Pol (api_Pol.mk x9.What x9.F x9.N []))) (st_build (ds := [.int .i64 x9.What, .int .i64 x9.F, .int .u16 x9.N, eL (some 4) eapi_Pol []]) rfl) ?_
       refine step (v := vl0 ([(api_Pol.mk x9.What x9.F x9.N [])] : List api_Pol)) (st_eq rfl (by simp [eL, eu_api_Pol])) ?_
       refine step (v := .loc 3 0 l16.length) (σ' := (upd (upd (stab [(0, .var [vi 0, vi 0, .d (.int .u16 0), vl0 []]), (1, .lst true (some 4) (List.map eapi_Pol l2)), (2, .var [vi x9.What, vi x9.F, .d (.int .u16 x9.N), .d (.int .u8 x9.K)])]) 1 none) 3 (some (.lst true (some 4) (List.map eapi_Pol l16))))) (n' := 4) (st_app (xs := l2) (ys := ([(api_Pol.mk x9.What x9.F x9.N [])] : List api_Pol)) (e := eapi_Pol) hl16 rfl rfl rfl (src_v (xs := ([(api_Pol.mk x9.What x9.F x9.N [])] : List api_Pol)) (e := eapi_Pol) rfl)) ?_
       refine q1 (.loc 3 0 l16.length) ?_
       exact nR [0, 3]
      exact And.intro rfl rfl
     ·
      replace h := iteF hc15 h
      refine NWp.condF (t := ((x9.What == 2) || ((x9.What == 3) || (x9.What == 5)))) rfl hc15 ?_
      refine NWp.opsJ ⟨tab [(2, .ptr 0 0 0), (4, .loc 1 0 l2.length), (6, .ptr 2 0 0), (7, vi (l2.length : Int)), (14, vl3 a0), (15, vi (a0.length : Int)), (16, vi i3), (61, vb ((x9.What == 4) && (decide ((l2.length : Int) > 0))))], stab [(0, .var [vi 0, vi 0, .d (.int .u16 0), vl0 []]), (1, .lst true (some 4) (List.map eapi_Pol l2)), (2, .var [vi x9.What, vi x9.F, .d (.int .u16 x9.N), .d (.int .u8 x9.K)])], 3⟩ ?_ ?_
      ·
       refine q1 (.ptr 2 0 0) ?_
       refine q1 (vi x9.What) ?_
       refine q1 (vb (x9.What == 4)) ?_
       refine q1 (vb (x9.What == 4)) ?_
       by_cases hg17 : (x9.What == 4) = true
       ·
        refine qG (x9.What == 4) hg17 ?_
        refine q1 (vi (l2.length : Int)) ?_
        refine qG (x9.What == 4) hg17 ?_
        refine q1 (vb (decide ((l2.length : Int) > 0))) ?_
        refine step (v := vb (decide ((l2.length : Int) > 0))) (st_pickT (b := (x9.What == 4)) rfl hg17 rfl) ?_
        refine q1 (vb (decide ((l2.length : Int) > 0))) ?_
        exact RunOps.nil' (nm [0, 1, 2] ⟨.pt 0, .lc 1, .pt 2, .d _, .d _, .d _, .d _, .eq (by first | (simp [hg17]; done) | (simp_all; done) | grind), trivial⟩ ⟨⟨show 0 < 3 by decide, _, rfl, .vars ⟨.d _, .d _, .d _, .d _, trivial⟩⟩, ⟨show 1 < 3 by decide, _, rfl, .lst _ _ _⟩, ⟨show 2 < 3 by decide, _, rfl, .vars ⟨.d _, .d _, .d _, .d _, trivial⟩⟩, trivial⟩)
       ·
        refine qX (x9.What == 4) hg17 ?_
        refine qX (x9.What == 4) hg17 ?_
        refine step (v := vb false) (st_pickF (b := (x9.What == 4)) rfl hg17 rfl) ?_
        refine q1 (vb false) ?_
        exact RunOps.nil' (nm [0, 1, 2] ⟨.pt 0, .lc 1, .pt 2, .d _, .d _, .d _, .d _, .eq (by first | (simp [hg17]; done) | (simp_all; done) | grind), trivial⟩ ⟨⟨show 0 < 3 by decide, _, rfl, .vars ⟨.d _, .d _, .d _, .d _, trivial⟩⟩, ⟨show 1 < 3 by decide, _, rfl, .lst _ _ _⟩, ⟨show 2 < 3 by decide, _, rfl, .vars ⟨.d _, .d _, .d _, .d _, trivial⟩⟩, trivial⟩)
      by_cases hc18 : ((x9.What == 4) && (decide ((l2.length : Int) > 0))) = true
      ·
       replace h := iteT hc18 h
       refine NWp.condT (t := ((x9.What == 4) && (decide ((l2.length : Int) > 0)))) rfl hc18 ?_
       obtain ⟨x19, hx19, h⟩ := bindE h
       obtain ⟨l20, hl20, h⟩ := bindE h
       have hh := Option.some.inj h
       subst hh
       refine NWp.opsE ⟨tab [(2, .ptr 0 0 0), (4, .loc 1 0 l20.length), (14, vl3 a0), (15, vi (a0.length : Int)), (16, vi i3)], stab [(0, .var [vi 0, vi 0, .d (.int .u16 0), vl0 []]), (1, .lst true (some 4) (List.map eapi_Pol l20))], 2⟩ ?_ ?_
       ·
        refine q1 (.loc 1 0 l2.length) ?_
        refine q1 (vi (l2.length : Int)) ?_
        refine q1 (vi (IntKind.i64.wrap ((l2.length : Int) - 1))) ?_
        refine q1 (.loc 1 0 l2.length) ?_
        refine q1 (vi (l2.length : Int)) ?_
        refine q1 (vi (IntKind.i64.wrap ((l2.length : Int) - 1))) ?_
        refine step (v := .ptr 1 (IntKind.i64.wrap ((l2.length : Int) - 1)).toNat 0) (st_iaddrL (xs := l2) (e := eapi_Pol) hx19 rfl rfl rfl rfl) ?_
        refine step (v := .d (uapi_Pol x19)) (st_loadLU (xs := l2) (e := eapi_Pol) hx19 rfl rfl (eu_api_Pol _) rfl) ?_
        refine step (v := vl0 ([x19] : List api_Pol)) (st_eq rfl (by simp [eL, eu_api_Pol])) ?_
        refine step (v := .d (uapi_Pol (api_Pol.mk 4 0 0 ([x19] : List api_Pol)))) (st_build (ds := [.int .i64 4, .int .i64 0, .int .u16 0, eL (some 4) eapi_Pol ([x19] : List api_Pol)]) rfl) ?_
        refine step (v := .ptr 1 (IntKind.i64.wrap ((l2.length : Int) - 1)).toNat 0) (st_iaddrL (xs := l2) (e := eapi_Pol) hx19 rfl rfl rfl rfl) ?_
        refine step (v := V.undef) (σ' := (upd (stab [(0, .var [vi 0, vi 0, .d (.int .u16 0), vl0 []]), (1, .lst true (some 4) (List.map eapi_Pol l2)), (2, .var [vi x9.What, vi x9.F, .d (.int .u16 x9.N), .d (.int .u8 x9.K)])]) 1 (some (.lst true (some 4) (List.map eapi_Pol l20))))) (n' := 3) (st_storeLU' (e := eapi_Pol) (v' := (api_Pol.mk 4 0 0 ([x19] : List api_Pol))) hl20 rfl rfl rfl (eu_api_Pol _) rfl rfl) ?_
        exact RunOps.nil' (nm [0, 1] ⟨.pt 0, .le (id := 1) (gput_len hl20).symm (show 1 < 2 by decide), .d _, .d _, .d _, trivial⟩ ⟨⟨show 0 < 2 by decide, _, rfl, .vars ⟨.d _, .d _, .d _, .d _, trivial⟩⟩, ⟨show 1 < 2 by decide, _, rfl, .lst _ _ _⟩, trivial⟩)
       exact And.intro rfl rfl
      ·
       replace h := iteF hc18 h
       refine NWp.condF (t := ((x9.What == 4) && (decide ((l2.length : Int) > 0)))) rfl hc18 ?_
       refine NWp.opsJ ⟨tab [(2, .ptr 0 0 0), (4, .loc 1 0 l2.length), (6, .ptr 2 0 0), (7, vi (l2.length : Int)), (14, vl3 a0), (15, vi (a0.length : Int)), (16, vi i3), (80, vb ((x9.What == 6) || (x9.What == 7)))], stab [(0, .var [vi 0, vi 0, .d (.int .u16 0), vl0 []]), (1, .lst true (some 4) (List.map eapi_Pol l2)), (2, .var [vi x9.What, vi x9.F, .d (.int .u16 x9.N), .d (.int .u8 x9.K)])], 3⟩ ?_ ?_
       ·
        refine q1 (.ptr 2 0 0) ?_
        refine q1 (vi x9.What) ?_
        refine q1 (vb (x9.What == 6)) ?_
        refine q1 (vb (x9.What == 6)) ?_
        by_cases hg21 : (x9.What == 6) = true
        ·
         refine qX (x9.What == 6) (by rw [hg21]; decide) ?_
         refine qX (x9.What == 6) (by rw [hg21]; decide) ?_
         refine qX (x9.What == 6) (by rw [hg21]; decide) ?_
         refine step (v := vb true) (st_pickT (b := (x9.What == 6)) rfl hg21 rfl) ?_
         refine q1 (vb true) ?_
         exact RunOps.nil' (nm [0, 1, 2] ⟨.pt 0, .lc 1, .pt 2, .d _, .d _, .d _, .d _, .eq (by first | (simp [hg21]; done) | (simp_all; done) | grind), trivial⟩ ⟨⟨show 0 < 3 by decide, _, rfl, .vars ⟨.d _, .d _, .d _, .d _, trivial⟩⟩, ⟨show 1 < 3 by decide, _, rfl, .lst _ _ _⟩, ⟨show 2 < 3 by decide, _, rfl, .vars ⟨.d _, .d _, .d _, .d _, trivial⟩⟩, trivial⟩)
        ·
         refine qG (x9.What == 6) (Bool.eq_false_iff.2 hg21) ?_
         refine q1 (.ptr 2 0 0) ?_
         refine qG (x9.What == 6) (Bool.eq_false_iff.2 hg21) ?_
         refine q1 (vi x9.What) ?_
         refine qG (x9.What == 6) (Bool.eq_false_iff.2 hg21) ?_
         refine q1 (vb (x9.What == 7)) ?_
         refine step (v := vb (x9.What == 7)) (st_pickF (b := (x9.What == 6)) rfl hg21 rfl) ?_
         refine q1 (vb (x9.What == 7)) ?_
         exact RunOps.nil' (nm [0, 1, 2] ⟨.pt 0, .lc 1, .pt 2, .d _, .d _, .d _, .d _, .eq (by first | (simp [hg21]; done) | (simp_all; done) | grind), trivial⟩ ⟨⟨show 0 < 3 by decide, _, rfl, .vars ⟨.d _, .d _, .d _, .d _, trivial⟩⟩, ⟨show 1 < 3 by decide, _, rfl, .lst _ _ _⟩, ⟨show 2 < 3 by decide, _, rfl, .vars ⟨.d _, .d _, .d _, .d _, trivial⟩⟩, trivial⟩)
       by_cases hc22 : ((x9.What == 6) || (x9.What == 7)) = true
       ·
        replace h := iteT hc22 h
        refine NWp.condT (t := ((x9.What == 6) || (x9.What == 7))) rfl hc22 ?_
        refine NWp.opsJ ⟨tab [(2, .ptr 0 0 0), (4, .loc 1 0 l2.length), (6, .ptr 2 0 0), (7, vi (l2.length : Int)), (8, vi (imin (IntKind.i64.wrap x9.K) (l2.length : Int))), (14, vl3 a0), (15, vi (a0.length : Int)), (16, vi i3)], stab [(0, .var [vi 0, vi 0, .d (.int .u16 0), vl0 []]), (1, .lst true (some 4) (List.map eapi_Pol l2)), (2, .var [vi x9.What, vi x9.F, .d (.int .u16 x9.N), .d (.int .u8 x9.K)])], 3⟩ ?_ ?_
        ·
         refine q1 (.ptr 2 0 3) ?_
         refine q1 (.d (.int .u8 x9.K)) ?_
         refine q1 (vi (IntKind.i64.wrap x9.K)) ?_
         refine q1 (vi (l2.length : Int)) ?_
         refine q1 (vi (imin (IntKind.i64.wrap x9.K) (l2.length : Int))) ?_
         refine q1 (vi (imin (IntKind.i64.wrap x9.K) (l2.length : Int))) ?_
         exact nR [0, 1, 2]
        obtain ⟨l23, hl23, h⟩ := bindE h
        obtain ⟨l24, hl24, h⟩ := bindE h
        refine NWp.opsJ ⟨tab [(2, .ptr 0 0 0), (4, .loc 1 0 l2.length), (6, .ptr 2 0 0), (7, vi (l2.length : Int)), (8, vi (imin (IntKind.i64.wrap x9.K) (l2.length : Int))), (9, vl0 l24), (14, vl3 a0), (15, vi (a0.length : Int)), (16, vi i3)], stab [(0, .var [vi 0, vi 0, .d (.int .u16 0), vl0 []]), (1, .lst true (some 4) (List.map eapi_Pol l2)), (2, .var [vi x9.What, vi x9.F, .d (.int .u16 x9.N), .d (.int .u8 x9.K)])], 3⟩ ?_ ?_
        ·
         refine step (v := .loc 3 0 (([] : List api_Pol).length)) (σ' := (upd (stab [(0, .var [vi 0, vi 0, .d (.int .u16 0), vl0 []]), (1, .lst true (some 4) (List.map eapi_Pol l2)), (2, .var [vi x9.What, vi x9.F, .d (.int .u16 x9.N), .d (.int .u8 x9.K)])]) 3 (some (.lst false (some 4) (List.map eapi_Pol ([] : List api_Pol)))))) (n' := 4) rfl ?_
         refine q1 (.loc 1 0 l2.length) ?_
         refine q1 (vi (l2.length : Int)) ?_
         refine q1 (vi (imin (IntKind.i64.wrap x9.K) (l2.length : Int))) ?_
         refine q1 (vi (IntKind.i64.wrap ((l2.length : Int) - (imin (IntKind.i64.wrap x9.K) (l2.length : Int))))) ?_
         refine step (v := .loc 1 (IntKind.i64.wrap ((l2.length : Int) - (imin (IntKind.i64.wrap x9.K) (l2.length : Int)))).toNat ((l2.length : Int).toNat - (IntKind.i64.wrap ((l2.length : Int) - (imin (IntKind.i64.wrap x9.K) (l2.length : Int)))).toNat)) (st_slcL (xs := l2) (e := eapi_Pol) hl23 rfl rfl rfl ⟨_, rfl⟩ rfl) ?_
         refine step (v := .loc 4 0 l24.length) (σ' := (upd (upd (upd (stab [(0, .var [vi 0, vi 0, .d (.int .u16 0), vl0 []]), (1, .lst true (some 4) (List.map eapi_Pol l2)), (2, .var [vi x9.What, vi x9.F, .d (.int .u16 x9.N), .d (.int .u8 x9.K)])]) 3 (some (.lst false (some 4) (List.map eapi_Pol ([] : List api_Pol))))) 3 none) 4 (some (.lst false (some 4) (List.map eapi_Pol l24))))) (n' := 5) (st_app (xs := ([] : List api_Pol)) (ys := l23) (e := eapi_Pol) hl24 rfl rfl rfl (src_w (xs := l2) (e := eapi_Pol) hl23 rfl rfl)) ?_
         refine q1 (.loc 4 0 l24.length) ?_
         exact RunOps.nil' (Norm.trans (s2 := ⟨tab [(2, .ptr 0 0 0), (4, .loc 1 0 l2.length), (6, .ptr 2 0 0), (7, vi (l2.length : Int)), (8, vi (imin (IntKind.i64.wrap x9.K) (l2.length : Int))), (9, vl0 l24), (14, vl3 a0), (15, vi (a0.length : Int)), (16, vi i3)], stab [(0, .var [vi 0, vi 0, .d (.int .u16 0), vl0 []]), (1, .lst true (some 4) (List.map eapi_Pol l2)), (2, .var [vi x9.What, vi x9.F, .d (.int .u16 x9.N), .d (.int .u8 x9.K)])], 3⟩) (Norm.imm1 [9, 100] (id := 4) (m := false) (k := (some 4)) (xs := l24) (e := eapi_Pol) rfl (fun t ht => by simp at ht; rcases ht with rfl | rfl <;> exact ⟨_, rfl, rfl⟩)) (nr [0, 1, 2]))
        obtain ⟨l25, hl25, h⟩ := bindE h
        obtain ⟨l26, hl26, h⟩ := bindE h
        have hh := Option.some.inj h
        subst hh
        refine NWp.opsE ⟨tab [(2, .ptr 0 0 0), (4, .loc 1 0 l26.length), (14, vl3 a0), (15, vi (a0.length : Int)), (16, vi i3)], stab [(0, .var [vi 0, vi 0, .d (.int .u16 0), vl0 []]), (1, .lst true (some 4) (List.map eapi_Pol l26))], 2⟩ ?_ ?_
        ·
         refine q1 (.loc 1 0 l2.length) ?_
         refine q1 (vi (l2.length : Int)) ?_
         refine q1 (vi (imin (IntKind.i64.wrap x9.K) (l2.length : Int))) ?_
         refine q1 (vi (IntKind.i64.wrap ((l2.length : Int) - (imin (IntKind.i64.wrap x9.K) (l2.length : Int))))) ?_
         refine step (v := .loc 1 (0 : Int).toNat ((IntKind.i64.wrap ((l2.length : Int) - (imin (IntKind.i64.wrap x9.K) (l2.length : Int)))).toNat - (0 : Int).toNat)) (st_slcL (xs := l2) (e := eapi_Pol) hl25 rfl rfl rfl rfl ⟨_, rfl⟩) ?_
         refine q1 (.ptr 2 0 0) ?_
         refine q1 (vi x9.What) ?_
         refine q1 (vl0 l24) ?_
         refine step (v := .d (uapi_Pol (api_Pol.mk x9.What 0 0 l24))) (st_build (ds := [.int .i64 x9.What, .int .i64 0, .int .u16 0, eL (some 4) eapi_Pol l24]) rfl) ?_
         refine step (v := vl0 ([(api_Pol.mk x9.What 0 0 l24)] : List api_Pol)) (st_eq rfl (by simp [eL, eu_api_Pol])) ?_
         refine step (v := .loc 3 0 l26.length) (σ' := (upd (upd (stab [(0, .var [vi 0, vi 0, .d (.int .u16 0), vl0 []]), (1, .lst true (some 4) (List.map eapi_Pol l2)), (2, .var [vi x9.What, vi x9.F, .d (.int .u16 x9.N), .d (.int .u8 x9.K)])]) 1 none) 3 (some (.lst true (some 4) (List.map eapi_Pol l26))))) (n' := 4) (st_appC (xs := l2) (ys := ([(api_Pol.mk x9.What 0 0 l24)] : List api_Pol)) (e := eapi_Pol) hl25 hl26 rfl rfl (fun σ2 hq => (src_v (xs := ([(api_Pol.mk x9.What 0 0 l24)] : List api_Pol)) (e := eapi_Pol) rfl))) ?_
         refine q1 (.loc 3 0 l26.length) ?_
         exact nR [0, 3]
        exact And.intro rfl rfl
       ·
        replace h := iteF hc22 h
        refine NWp.condF (t := ((x9.What == 6) || (x9.What == 7))) rfl hc22 ?_
        have hh := Option.some.inj h
        subst hh
        refine NWp.norm (s0 := ⟨tab [(2, .ptr 0 0 0), (4, .loc 1 0 l2.length), (14, vl3 a0), (15, vi (a0.length : Int)), (16, vi i3)], stab [(0, .var [vi 0, vi 0, .d (.int .u16 0), vl0 []]), (1, .lst true (some 4) (List.map eapi_Pol l2))], 2⟩) (nr [0, 1]) ?_
        refine NWp.skip ?_
        exact And.intro rfl rfl
   have hh := Option.some.inj h
   subst hh
   refine NWp.opsE ⟨tab [(2, .ptr 0 0 0), (4, .loc 1 0 l27.length), (14, vl3 a0), (15, vi (a0.length : Int)), (16, vi (i3 + 1))], stab [(0, .var [vi 0, vi 0, .d (.int .u16 0), vl0 []]), (1, .lst true (some 4) (List.map eapi_Pol l27))], 2⟩ ?_ ?_
   ·
    refine step (v := vi (i3 + 1)) (st_inc (inc_ok hinv6 hgo5 hB4) rfl rfl) ?_
    refine q1 (vi (i3 + 1)) ?_
    exact nR [0, 1]
   exact And.intro rfl rfl
  ·
   rintro i3 l2 hinv6 hgo5
   show NWp _ _ _ _ _ ⟨tab [(2, .ptr 0 0 0), (4, .loc 1 0 l2.length), (14, vl3 a0), (15, vi (a0.length : Int)), (16, vi i3)], stab [(0, .var [vi 0, vi 0, .d (.int .u16 0), vl0 []]), (1, .lst true (some 4) (List.map eapi_Pol l2))], 2⟩
   have hc7 : ¬ (decide (i3 < (a0.length : Int)) = true) := fun hq => hgo5 (of_decide_eq_true hq)
   refine NWp.opsJ ⟨tab [(2, .ptr 0 0 0), (4, .loc 1 0 l2.length), (14, vl3 a0), (15, vi (a0.length : Int)), (16, vi i3), (17, vb (decide (i3 < (a0.length : Int))))], stab [(0, .var [vi 0, vi 0, .d (.int .u16 0), vl0 []]), (1, .lst true (some 4) (List.map eapi_Pol l2))], 2⟩ ?_ ?_
   ·
    refine q1 (vb (decide (i3 < (a0.length : Int)))) ?_
    exact nR [0, 1]
   refine NWp.seq ?_
   refine NWp.condF (t := decide (i3 < (a0.length : Int))) rfl hc7 ?_
   refine NWp.norm (s0 := ⟨tab [(2, .ptr 0 0 0), (4, vl0 l2)], stab [(0, .var [vi 0, vi 0, .d (.int .u16 0), vl0 []])], 1⟩) (Norm.trans (s2 := ⟨tab [(2, .ptr 0 0 0), (4, vl0 l2)], stab [(0, .var [vi 0, vi 0, .d (.int .u16 0), vl0 []])], 1⟩) (Norm.imm1 [4] (id := 1) (m := true) (k := (some 4)) (xs := l2) (e := eapi_Pol) rfl (fun t ht => by cases ht with | head => exact ⟨_, rfl, rfl⟩ | tail _ h => cases h)) (nr [0])) ?_
   refine NWp.exit ?_
   exact And.intro rfl rfl
  refine NWp.seq ?_
  refine NWp.opsJ ⟨tab [(2, .ptr 0 0 0), (4, vl0 z29), (115, vb ((z29.length : Int) == 0))], stab [(0, .var [vi 0, vi 0, .d (.int .u16 0), vl0 []])], 1⟩ ?_ ?_
  ·
   refine q1 (vl0 z29) ?_
   refine step (v := vi (z29.length : Int)) (st_len (xs := z29) (e := eapi_Pol) rfl) ?_
   refine q1 (vb ((z29.length : Int) == 0)) ?_
   exact nR [0]
  by_cases hc30 : ((z29.length : Int) == 0) = true
  ·
   replace h := iteT hc30 h
   refine NWp.condT (t := ((z29.length : Int) == 0)) rfl hc30 ?_
   refine NWp.opsJ ⟨tab [(2, .ptr 0 0 0), (3, vb false)], stab [(0, .var [vi 0, vi 0, .d (.int .u16 0), vl0 []])], 1⟩ ?_ ?_
   ·
    refine step (v := .d (uapi_Pol (api_Pol.mk 0 0 0 []))) (st_build (ds := [.int .i64 0, .int .i64 0, .int .u16 0, eL (some 4) eapi_Pol []]) rfl) ?_
    refine step (v := V.undef) (σ' := (upd (stab [(0, .var [vi 0, vi 0, .d (.int .u16 0), vl0 []])]) 0 (some (.var [vi 0, vi 0, .d (.int .u16 0), vl0 []])))) (n' := 1) rfl ?_
    refine q1 (vb false) ?_
    exact nR [0]
   have hh := Option.some.inj h
   subst hh
   refine NWp.ret ?_
   show FQ _ _ _ _
   exact FQ.mkT (.inr rfl) (res_cell (ds := [.int .i64 0, .int .i64 0, .int .u16 0, eL (some 4) eapi_Pol []]) rfl rfl (show 4 ≤ 4 by decide) rfl (res_t (v := vb false) rfl rfl)) (RV.d (RV.d trivial))
  ·
   replace h := iteF hc30 h
   refine NWp.condF (t := ((z29.length : Int) == 0)) rfl hc30 ?_
   refine NWp.skip ?_
   obtain ⟨x31, hx31, h⟩ := bindE h
   refine NWp.opsJ ⟨tab [(2, .ptr 0 0 0), (3, vb true)], stab [(0, .var [vi x31.Op, vi x31.F, .d (.int .u16 x31.N), vl0 x31.Kids])], 1⟩ ?_ ?_
   ·
    refine q1 (vl0 z29) ?_
    refine q1 (vl0 z29) ?_
    refine step (v := vi (z29.length : Int)) (st_len (xs := z29) (e := eapi_Pol) rfl) ?_
    refine q1 (vi (IntKind.i64.wrap ((z29.length : Int) - 1))) ?_
    refine step (v := .d (.cptr (some 4) (uapi_Pol x31) 0)) (st_iaddrU (xs := z29) (e := eapi_Pol) hx31 rfl rfl (eu_api_Pol _)) ?_
    refine q1 (.d (uapi_Pol x31)) ?_
    refine step (v := V.undef) (σ' := (upd (stab [(0, .var [vi 0, vi 0, .d (.int .u16 0), vl0 []])]) 0 (some (.var [vi x31.Op, vi x31.F, .d (.int .u16 x31.N), vl0 x31.Kids])))) (n' := 1) rfl ?_
    refine q1 (vb true) ?_
    exact nR [0]
   have hh := Option.some.inj h
   subst hh
   refine NWp.ret ?_
   show FQ _ _ _ _
   exact FQ.mkT (.inr rfl) (res_cell (ds := [.int .i64 x31.Op, .int .i64 x31.F, .int .u16 x31.N, eL (some 4) eapi_Pol x31.Kids]) rfl rfl (show 4 ≤ 4 by decide) rfl (res_t (v := vb true) rfl rfl)) (RV.d (RV.d trivial))

theorem c_ref05_Size_s {self : api_Pol → Option Int} (hself : ∀ (a0 : api_Pol) (r : Int), self a0 = some r → PCall Try.prog 42 [uapi_Pol a0] (.int .i64 r)) {a0 : api_Pol} {r : Int} (h : ref05_Size_s self a0 = some r) : PCall Try.prog 42 [uapi_Pol a0] (.int .i64 r) := by
 refine PCall.introN ok42 (show 1 ≤ 21 by decide) ?_
 refine NWp.norm (s0 := ⟨tab [(0, .d (uapi_Pol a0))], stab [], 0⟩) (nr []) ?_
 refine NWp.opsJ ⟨tab [(1, .d (.cptr (some 4) (uapi_Pol a0) 0))], stab [], 0⟩ ?_ ?_
 ·
  refine q1 (.d (.cptr (some 4) (uapi_Pol a0) 0)) ?_
  refine q1 (vi 0) ?_
  exact nR []
 refine NWp.opsJ ⟨tab [(1, .d (.cptr (some 4) (uapi_Pol a0) 0)), (3, vi 1)], stab [], 0⟩ ?_ ?_
 ·
  refine q1 (vi 1) ?_
  exact nR []
 refine NWp.seq ?_
 refine NWp.opsJ ⟨tab [(1, .d (.cptr (some 4) (uapi_Pol a0) 0)), (3, vi 1), (4, vi 0)], stab [], 0⟩ ?_ ?_
 ·
  refine q1 (vi 0) ?_
  exact nR []
 obtain ⟨z10, hl, h⟩ := bindE h
 refine NWp.block ?_
 refine loop_forO (cntU (a0.Kids.length : Int)) (fun (i2 : Int) (qq : Int) => ⟨tab [(1, .d (.cptr (some 4) (uapi_Pol a0) 0)), (3, vi qq), (4, vi i2)], stab [], 0⟩) 0 (fun (qq : Int) => ⟨tab [(3, vi qq)], stab [], 0⟩) Low low_step hl (by unfold Low; omega) ?_ ?_ ?_
 ·
  rintro i2 i1 xr7 hinv5 hgo4 h
  show NWp _ _ _ _ _ ⟨tab [(1, .d (.cptr (some 4) (uapi_Pol a0) 0)), (3, vi i1), (4, vi i2)], stab [], 0⟩
  have hc6 : decide (i2 < (a0.Kids.length : Int)) = true := decide_eq_true hgo4
  refine NWp.seq ?_
  refine NWp.opsJ ⟨tab [(1, .d (.cptr (some 4) (uapi_Pol a0) 0)), (3, vi i1), (4, vi i2), (8, vi (a0.Kids.length : Int)), (9, vb (decide (i2 < (a0.Kids.length : Int))))], stab [], 0⟩ ?_ ?_
  ·
   refine q1 (vi i2) ?_
   refine q1 (.d (.cptr (some 4) (uapi_Pol a0) 3)) ?_
   refine q1 (vl0 a0.Kids) ?_
   refine step (v := vi (a0.Kids.length : Int)) (st_len (xs := a0.Kids) (e := eapi_Pol) rfl) ?_
   refine q1 (vb (decide (i2 < (a0.Kids.length : Int)))) ?_
   exact nR []
  refine NWp.rng 8 rfl fun hB3 => ?_
  refine NWp.condT (t := decide (i2 < (a0.Kids.length : Int))) rfl hc6 ?_
  refine NWp.skip ?_
  refine NWp.seq ?_
  refine NWp.block ?_
  obtain ⟨x8, hx8, h⟩ := bindE h
  obtain ⟨r9, hr9, h⟩ := bindE h
  refine NWp.opsE ⟨tab [(1, .d (.cptr (some 4) (uapi_Pol a0) 0)), (3, vi (IntKind.i64.wrap (i1 + r9))), (4, vi i2)], stab [], 0⟩ ?_ ?_
  ·
   refine q1 (vi i1) ?_
   refine q1 (.d (.cptr (some 4) (uapi_Pol a0) 3)) ?_
   refine q1 (vl0 a0.Kids) ?_
   refine q1 (vi i2) ?_
   refine step (v := .d (.cptr (some 4) (uapi_Pol x8) 0)) (st_iaddrU (xs := a0.Kids) (e := eapi_Pol) hx8 rfl rfl (eu_api_Pol _)) ?_
   refine q1 (.d (uapi_Pol x8)) ?_
   refine stepC (r := .int .i64 r9) (ArgsOk.dt ArgsOk.nil') (hself _ _ hr9) ?_
   refine q1 (vi (IntKind.i64.wrap (i1 + r9))) ?_
   refine q1 (vi (IntKind.i64.wrap (i1 + r9))) ?_
   exact nR []
  have hh := Option.some.inj h
  subst hh
  refine NWp.opsE ⟨tab [(1, .d (.cptr (some 4) (uapi_Pol a0) 0)), (3, vi (IntKind.i64.wrap (i1 + r9))), (4, vi (i2 + 1))], stab [], 0⟩ ?_ ?_
  ·
   refine q1 (vi i2) ?_
   refine step (v := vi (i2 + 1)) (st_inc (inc_ok hinv5 hgo4 hB3) rfl rfl) ?_
   refine q1 (vi (i2 + 1)) ?_
   exact nR []
  exact And.intro rfl rfl
 ·
  rintro i2 i1 hinv5 hgo4
  show NWp _ _ _ _ _ ⟨tab [(1, .d (.cptr (some 4) (uapi_Pol a0) 0)), (3, vi i1), (4, vi i2)], stab [], 0⟩
  have hc6 : ¬ (decide (i2 < (a0.Kids.length : Int)) = true) := fun hq => hgo4 (of_decide_eq_true hq)
  refine NWp.seq ?_
  refine NWp.opsJ ⟨tab [(1, .d (.cptr (some 4) (uapi_Pol a0) 0)), (3, vi i1), (4, vi i2), (9, vb (decide (i2 < (a0.Kids.length : Int))))], stab [], 0⟩ ?_ ?_
  ·
   refine q1 (vi i2) ?_
   refine q1 (.d (.cptr (some 4) (uapi_Pol a0) 3)) ?_
   refine q1 (vl0 a0.Kids) ?_
   refine step (v := vi (a0.Kids.length : Int)) (st_len (xs := a0.Kids) (e := eapi_Pol) rfl) ?_
   refine q1 (vb (decide (i2 < (a0.Kids.length : Int)))) ?_
   exact nR []
  refine NWp.condF (t := decide (i2 < (a0.Kids.length : Int))) rfl hc6 ?_
  refine NWp.norm (s0 := ⟨tab [(3, vi i1)], stab [], 0⟩) (nr []) ?_
  refine NWp.exit ?_
  exact And.intro rfl rfl
 refine NWp.opsJ ⟨tab [(2, vi z10)], stab [], 0⟩ ?_ ?_
 ·
  refine q1 (vi z10) ?_
  refine q1 (vi z10) ?_
  exact nR []
 have hh := Option.some.inj h
 subst hh
 refine NWp.ret ?_
 show FQ _ _ _ _
 exact FQ.mk1 (.inr rfl) (res_t (v := vi z10) rfl rfl) (RV.d trivial)

theorem c_ref05_Size_f : ∀ (k : Nat) (a0 : api_Pol) (r : Int), ref05_Size_f k a0 = some r → PCall Try.prog 42 [uapi_Pol a0] (.int .i64 r)
 | 0, _, _, h => by cases h
 | k + 1, _, _, h => c_ref05_Size_s (c_ref05_Size_f k) h

theorem c_ref05_Size {a0 : api_Pol} {r : Int} (h : ref05_Size a0 = some r) : PCall Try.prog 42 [uapi_Pol a0] (.int .i64 r) := c_ref05_Size_f FUEL _ _ h

theorem c_ref05_Depth_s {self : api_Pol → Option Int} (hself : ∀ (a0 : api_Pol) (r : Int), self a0 = some r → PCall Try.prog 43 [uapi_Pol a0] (.int .i64 r)) {a0 : api_Pol} {r : Int} (h : ref05_Depth_s self a0 = some r) : PCall Try.prog 43 [uapi_Pol a0] (.int .i64 r) := by
 refine PCall.introN ok43 (show 1 ≤ 22 by decide) ?_
 refine NWp.norm (s0 := ⟨tab [(0, .d (uapi_Pol a0))], stab [], 0⟩) (nr []) ?_
 refine NWp.opsJ ⟨tab [(1, .d (.cptr (some 4) (uapi_Pol a0) 0))], stab [], 0⟩ ?_ ?_
 ·
  refine q1 (.d (.cptr (some 4) (uapi_Pol a0) 0)) ?_
  refine q1 (vi 0) ?_
  exact nR []
 refine NWp.opsJ ⟨tab [(1, .d (.cptr (some 4) (uapi_Pol a0) 0)), (3, vi 0)], stab [], 0⟩ ?_ ?_
 ·
  refine q1 (vi 0) ?_
  exact nR []
 refine NWp.seq ?_
 refine NWp.opsJ ⟨tab [(1, .d (.cptr (some 4) (uapi_Pol a0) 0)), (3, vi 0), (4, vi 0)], stab [], 0⟩ ?_ ?_
 ·
  refine q1 (vi 0) ?_
  exact nR []
 obtain ⟨z10, hl, h⟩ := bindE h
 refine NWp.block ?_
 refine loop_forO (cntU (a0.Kids.length : Int)) (fun (i2 : Int) (qq : Int) => ⟨tab [(1, .d (.cptr (some 4) (uapi_Pol a0) 0)), (3, vi qq), (4, vi i2)], stab [], 0⟩) 0 (fun (qq : Int) => ⟨tab [(3, vi qq)], stab [], 0⟩) Low low_step hl (by unfold Low; omega) ?_ ?_ ?_
 ·
  rintro i2 i1 xr7 hinv5 hgo4 h
  show NWp _ _ _ _ _ ⟨tab [(1, .d (.cptr (some 4) (uapi_Pol a0) 0)), (3, vi i1), (4, vi i2)], stab [], 0⟩
  have hc6 : decide (i2 < (a0.Kids.length : Int)) = true := decide_eq_true hgo4
  refine NWp.seq ?_
  refine NWp.opsJ ⟨tab [(1, .d (.cptr (some 4) (uapi_Pol a0) 0)), (3, vi i1), (4, vi i2), (8, vi (a0.Kids.length : Int)), (9, vb (decide (i2 < (a0.Kids.length : Int))))], stab [], 0⟩ ?_ ?_
  ·
   refine q1 (vi i2) ?_
   refine q1 (.d (.cptr (some 4) (uapi_Pol a0) 3)) ?_
   refine q1 (vl0 a0.Kids) ?_
   refine step (v := vi (a0.Kids.length : Int)) (st_len (xs := a0.Kids) (e := eapi_Pol) rfl) ?_
   refine q1 (vb (decide (i2 < (a0.Kids.length : Int)))) ?_
   exact nR []
  refine NWp.rng 8 rfl fun hB3 => ?_
  refine NWp.condT (t := decide (i2 < (a0.Kids.length : Int))) rfl hc6 ?_
  refine NWp.skip ?_
  refine NWp.seq ?_
  refine NWp.block ?_
  obtain ⟨x8, hx8, h⟩ := bindE h
  obtain ⟨r9, hr9, h⟩ := bindE h
  refine NWp.opsE ⟨tab [(1, .d (.cptr (some 4) (uapi_Pol a0) 0)), (3, vi (imax i1 r9)), (4, vi i2)], stab [], 0⟩ ?_ ?_
  ·
   refine q1 (vi i1) ?_
   refine q1 (.d (.cptr (some 4) (uapi_Pol a0) 3)) ?_
   refine q1 (vl0 a0.Kids) ?_
   refine q1 (vi i2) ?_
   refine step (v := .d (.cptr (some 4) (uapi_Pol x8) 0)) (st_iaddrU (xs := a0.Kids) (e := eapi_Pol) hx8 rfl rfl (eu_api_Pol _)) ?_
   refine q1 (.d (uapi_Pol x8)) ?_
   refine stepC (r := .int .i64 r9) (ArgsOk.dt ArgsOk.nil') (hself _ _ hr9) ?_
   refine q1 (vi (imax i1 r9)) ?_
   refine q1 (vi (imax i1 r9)) ?_
   exact nR []
  have hh := Option.some.inj h
  subst hh
  refine NWp.opsE ⟨tab [(1, .d (.cptr (some 4) (uapi_Pol a0) 0)), (3, vi (imax i1 r9)), (4, vi (i2 + 1))], stab [], 0⟩ ?_ ?_
  ·
   refine q1 (vi i2) ?_
   refine step (v := vi (i2 + 1)) (st_inc (inc_ok hinv5 hgo4 hB3) rfl rfl) ?_
   refine q1 (vi (i2 + 1)) ?_
   exact nR []
  exact And.intro rfl rfl
 ·
  rintro i2 i1 hinv5 hgo4
  show NWp _ _ _ _ _ ⟨tab [(1, .d (.cptr (some 4) (uapi_Pol a0) 0)), (3, vi i1), (4, vi i2)], stab [], 0⟩
  have hc6 : ¬ (decide (i2 < (a0.Kids.length : Int)) = true) := fun hq => hgo4 (of_decide_eq_true hq)
  refine NWp.seq ?_
  refine NWp.opsJ ⟨tab [(1, .d (.cptr (some 4) (uapi_Pol a0) 0)), (3, vi i1), (4, vi i2), (9, vb (decide (i2 < (a0.Kids.length : Int))))], stab [], 0⟩ ?_ ?_
  ·
   refine q1 (vi i2) ?_
   refine q1 (.d (.cptr (some 4) (uapi_Pol a0) 3)) ?_
   refine q1 (vl0 a0.Kids) ?_
   refine step (v := vi (a0.Kids.length : Int)) (st_len (xs := a0.Kids) (e := eapi_Pol) rfl) ?_
   refine q1 (vb (decide (i2 < (a0.Kids.length : Int)))) ?_
   exact nR []
  refine NWp.condF (t := decide (i2 < (a0.Kids.length : Int))) rfl hc6 ?_
  refine NWp.norm (s0 := ⟨tab [(3, vi i1)], stab [], 0⟩) (nr []) ?_
  refine NWp.exit ?_
  exact And.intro rfl rfl
 refine NWp.opsJ ⟨tab [(2, vi (IntKind.i64.wrap (z10 + 1)))], stab [], 0⟩ ?_ ?_
 ·
  refine q1 (vi z10) ?_
  refine q1 (vi (IntKind.i64.wrap (z10 + 1))) ?_
  refine q1 (vi (IntKind.i64.wrap (z10 + 1))) ?_
  exact nR []
 have hh := Option.some.inj h
 subst hh
 refine NWp.ret ?_
 show FQ _ _ _ _
 exact FQ.mk1 (.inr rfl) (res_t (v := vi (IntKind.i64.wrap (z10 + 1))) rfl rfl) (RV.d trivial)

theorem c_ref05_Depth_f : ∀ (k : Nat) (a0 : api_Pol) (r : Int), ref05_Depth_f k a0 = some r → PCall Try.prog 43 [uapi_Pol a0] (.int .i64 r)
 | 0, _, _, h => by cases h
 | k + 1, _, _, h => c_ref05_Depth_s (c_ref05_Depth_f k) h

theorem c_ref05_Depth {a0 : api_Pol} {r : Int} (h : ref05_Depth a0 = some r) : PCall Try.prog 43 [uapi_Pol a0] (.int .i64 r) := c_ref05_Depth_f FUEL _ _ h

theorem c_ref05_Predicate_s {self : api_Pol → Option Bool} (hself : ∀ (a0 : api_Pol) (r : Bool), self a0 = some r → PCall Try.prog 45 [uapi_Pol a0] (.bool r)) {a0 : api_Pol} {r : Bool} (h : ref05_Predicate_s self a0 = some r) : PCall Try.prog 45 [uapi_Pol a0] (.bool r) := by
 refine PCall.introN ok45 (show 1 ≤ 39 by decide) ?_
 refine NWp.norm (s0 := ⟨tab [(0, .d (uapi_Pol a0))], stab [], 0⟩) (nr []) ?_
 refine NWp.opsJ ⟨tab [(1, .d (.cptr (some 4) (uapi_Pol a0) 0))], stab [], 0⟩ ?_ ?_
 ·
  refine q1 (.d (.cptr (some 4) (uapi_Pol a0) 0)) ?_
  refine q1 (vb false) ?_
  exact nR []
 refine NWp.seq ?_
 refine NWp.opsJ ⟨tab [(1, .d (.cptr (some 4) (uapi_Pol a0) 0)), (16, vb ((a0.Op == 5) || ((decide (a0.Op < 0)) || (decide (a0.Op > 7)))))], stab [], 0⟩ ?_ ?_
 ·
  refine q1 (.d (.cptr (some 4) (uapi_Pol a0) 0)) ?_
  refine q1 (vi a0.Op) ?_
  refine q1 (vb (a0.Op == 5)) ?_
  refine q1 (vb (a0.Op == 5)) ?_
  by_cases hg1 : (a0.Op == 5) = true
  ·
   refine qX (a0.Op == 5) (by rw [hg1]; decide) ?_
   refine qX (a0.Op == 5) (by rw [hg1]; decide) ?_
   refine qX (a0.Op == 5) (by rw [hg1]; decide) ?_
   refine step (v := vb true) (st_pickT (b := (a0.Op == 5)) rfl hg1 rfl) ?_
   refine q1 (vb true) ?_
   refine qX true (by decide) ?_
   refine qX true (by decide) ?_
   refine qX true (by decide) ?_
   refine step (v := vb true) (st_pickT (b := true) rfl rfl rfl) ?_
   exact RunOps.nil' (nm [] ⟨.d _, .eq (by first | (simp [hg1]; done) | (simp_all; done) | grind), trivial⟩ trivial)
  ·
   refine qG (a0.Op == 5) (Bool.eq_false_iff.2 hg1) ?_
   refine q1 (.d (.cptr (some 4) (uapi_Pol a0) 0)) ?_
   refine qG (a0.Op == 5) (Bool.eq_false_iff.2 hg1) ?_
   refine q1 (vi a0.Op) ?_
   refine qG (a0.Op == 5) (Bool.eq_false_iff.2 hg1) ?_
   refine q1 (vb (decide (a0.Op < 0))) ?_
   refine step (v := vb (decide (a0.Op < 0))) (st_pickF (b := (a0.Op == 5)) rfl hg1 rfl) ?_
   refine q1 (vb (decide (a0.Op < 0))) ?_
   by_cases hg2 : decide (a0.Op < 0) = true
   ·
    refine qX (decide (a0.Op < 0)) (by rw [hg2]; decide) ?_
    refine qX (decide (a0.Op < 0)) (by rw [hg2]; decide) ?_
    refine qX (decide (a0.Op < 0)) (by rw [hg2]; decide) ?_
    refine step (v := vb true) (st_pickT (b := decide (a0.Op < 0)) rfl hg2 rfl) ?_
    exact RunOps.nil' (nm [] ⟨.d _, .eq (by first | (simp [hg1, hg2]; done) | (simp_all; done) | grind), trivial⟩ trivial)
   ·
    refine qG (decide (a0.Op < 0)) (Bool.eq_false_iff.2 hg2) ?_
    refine q1 (.d (.cptr (some 4) (uapi_Pol a0) 0)) ?_
    refine qG (decide (a0.Op < 0)) (Bool.eq_false_iff.2 hg2) ?_
    refine q1 (vi a0.Op) ?_
    refine qG (decide (a0.Op < 0)) (Bool.eq_false_iff.2 hg2) ?_
    refine q1 (vb (decide (a0.Op > 7))) ?_
    refine step (v := vb (decide (a0.Op > 7))) (st_pickF (b := decide (a0.Op < 0)) rfl hg2 rfl) ?_
    exact RunOps.nil' (nm [] ⟨.d _, .eq (by first | (simp [hg1, hg2]; done) | (simp_all; done) | grind), trivial⟩ trivial)
 by_cases hc3 : ((a0.Op == 5) || ((decide (a0.Op < 0)) || (decide (a0.Op > 7)))) = true
 ·
  replace h := iteT hc3 h
  refine NWp.condT (t := ((a0.Op == 5) || ((decide (a0.Op < 0)) || (decide (a0.Op > 7))))) rfl hc3 ?_
  refine NWp.opsJ ⟨tab [(2, vb false)], stab [], 0⟩ ?_ ?_
  ·
   refine q1 (vb false) ?_
   exact nR []
  have hh := Option.some.inj h
  subst hh
  refine NWp.ret ?_
  show FQ _ _ _ _
  exact FQ.mk1 (.inr rfl) (res_t (v := vb false) rfl rfl) (RV.d trivial)
 ·
  replace h := iteF hc3 h
  refine NWp.condF (t := ((a0.Op == 5) || ((decide (a0.Op < 0)) || (decide (a0.Op > 7))))) rfl hc3 ?_
  refine NWp.skip ?_
  obtain ⟨q16, hv, h⟩ := bindE h
  refine NWp.seqS (fun (qq : Unit) => ⟨tab [], stab [], 0⟩) (xv := q16) (r := r) ?_ ?_ ?_
  ·
   replace h := hv
   refine NWp.opsJ ⟨tab [(1, .d (.cptr (some 4) (uapi_Pol a0) 0)), (24, vb ((a0.Op == 6) || (a0.Op == 7)))], stab [], 0⟩ ?_ ?_
   ·
    refine q1 (.d (.cptr (some 4) (uapi_Pol a0) 0)) ?_
    refine q1 (vi a0.Op) ?_
    refine q1 (vb (a0.Op == 6)) ?_
    refine q1 (vb (a0.Op == 6)) ?_
    by_cases hg4 : (a0.Op == 6) = true
    ·
     refine qX (a0.Op == 6) (by rw [hg4]; decide) ?_
     refine qX (a0.Op == 6) (by rw [hg4]; decide) ?_
     refine qX (a0.Op == 6) (by rw [hg4]; decide) ?_
     refine step (v := vb true) (st_pickT (b := (a0.Op == 6)) rfl hg4 rfl) ?_
     exact RunOps.nil' (nm [] ⟨.d _, .eq (by first | (simp [hg4]; done) | (simp_all; done) | grind), trivial⟩ trivial)
    ·
     refine qG (a0.Op == 6) (Bool.eq_false_iff.2 hg4) ?_
     refine q1 (.d (.cptr (some 4) (uapi_Pol a0) 0)) ?_
     refine qG (a0.Op == 6) (Bool.eq_false_iff.2 hg4) ?_
     refine q1 (vi a0.Op) ?_
     refine qG (a0.Op == 6) (Bool.eq_false_iff.2 hg4) ?_
     refine q1 (vb (a0.Op == 7)) ?_
     refine step (v := vb (a0.Op == 7)) (st_pickF (b := (a0.Op == 6)) rfl hg4 rfl) ?_
     exact RunOps.nil' (nm [] ⟨.d _, .eq (by first | (simp [hg4]; done) | (simp_all; done) | grind), trivial⟩ trivial)
   by_cases hc5 : ((a0.Op == 6) || (a0.Op == 7)) = true
   ·
    replace h := iteT hc5 h
    refine NWp.condT (t := ((a0.Op == 6) || (a0.Op == 7))) rfl hc5 ?_
    refine NWp.opsJ ⟨tab [(1, .d (.cptr (some 4) (uapi_Pol a0) 0)), (3, vi 0)], stab [], 0⟩ ?_ ?_
    ·
     refine q1 (vi 0) ?_
     exact nR []
    obtain ⟨q15, hl, h⟩ := bindE h
    refine NWp.block ?_
    refine loop_forR (cntU (a0.Kids.length : Int)) (fun (i6 : Int) (qq : Unit) => ⟨tab [(1, .d (.cptr (some 4) (uapi_Pol a0) 0)), (3, vi i6)], stab [], 0⟩) 0 (fun (qq : Unit) => ⟨tab [], stab [], 0⟩) Low low_step (r := q16) hl (by unfold Low; omega) ?_ ?_ ?_ ?_
    ·
     rintro i6 ⟨⟩ xr11 hinv9 hgo8 h
     show NWp _ _ _ _ _ ⟨tab [(1, .d (.cptr (some 4) (uapi_Pol a0) 0)), (3, vi i6)], stab [], 0⟩
     have hc10 : decide (i6 < (a0.Kids.length : Int)) = true := decide_eq_true hgo8
     refine NWp.seq ?_
     refine NWp.opsJ ⟨tab [(1, .d (.cptr (some 4) (uapi_Pol a0) 0)), (3, vi i6), (28, vi (a0.Kids.length : Int)), (29, vb (decide (i6 < (a0.Kids.length : Int))))], stab [], 0⟩ ?_ ?_
     ·
      refine q1 (vi i6) ?_
      refine q1 (.d (.cptr (some 4) (uapi_Pol a0) 3)) ?_
      refine q1 (vl0 a0.Kids) ?_
      refine step (v := vi (a0.Kids.length : Int)) (st_len (xs := a0.Kids) (e := eapi_Pol) rfl) ?_
      refine q1 (vb (decide (i6 < (a0.Kids.length : Int)))) ?_
      exact nR []
     refine NWp.rng 28 rfl fun hB7 => ?_
     refine NWp.condT (t := decide (i6 < (a0.Kids.length : Int))) rfl hc10 ?_
     refine NWp.skip ?_
     refine NWp.seq ?_
     refine NWp.block ?_
     obtain ⟨x12, hx12, h⟩ := bindE h
     obtain ⟨r13, hr13, h⟩ := bindE h
     refine NWp.opsJ ⟨tab [(1, .d (.cptr (some 4) (uapi_Pol a0) 0)), (3, vi i6), (38, vb (!r13))], stab [], 0⟩ ?_ ?_
     ·
      refine q1 (.d (.cptr (some 4) (uapi_Pol a0) 3)) ?_
      refine q1 (vl0 a0.Kids) ?_
      refine q1 (vi i6) ?_
      refine step (v := .d (.cptr (some 4) (uapi_Pol x12) 0)) (st_iaddrU (xs := a0.Kids) (e := eapi_Pol) hx12 rfl rfl (eu_api_Pol _)) ?_
      refine q1 (.d (uapi_Pol x12)) ?_
      refine stepC (r := .bool r13) (ArgsOk.dt ArgsOk.nil') (hself _ _ hr13) ?_
      refine q1 (vb (!r13)) ?_
      exact nR []
     by_cases hc14 : (!r13) = true
     ·
      replace h := iteT hc14 h
      refine NWp.condT (t := (!r13)) rfl hc14 ?_
      refine NWp.opsJ ⟨tab [(2, vb false)], stab [], 0⟩ ?_ ?_
      ·
       refine q1 (vb false) ?_
       exact nR []
      obtain ⟨r15, kr15, hr⟩ := mapE (o := some (Sum.inr false)) (g := Br.ret) h
      subst hr
      have h := kr15
      obtain ⟨r16, kr16, hr⟩ := mapE (o := some false) (g := Sum.inr) h
      subst hr
      have h := kr16
      have hh := Option.some.inj h
      subst hh
      refine NWp.ret ?_
      refine And.intro (fun hn => nomatch hn) ?_
      intro hq
      have hq := hq.symm
      subst hq
      refine And.intro (fun hn => nomatch hn) ?_
      intro hq
      have hq := hq.symm
      subst hq
      show FQ _ _ _ _
      exact FQ.mk1 (.inr rfl) (res_t (v := vb false) rfl rfl) (RV.d trivial)
     ·
      replace h := iteF hc14 h
      refine NWp.condF (t := (!r13)) rfl hc14 ?_
      refine NWp.skip ?_
      have hh := Option.some.inj h
      subst hh
      refine NWp.opsE ⟨tab [(1, .d (.cptr (some 4) (uapi_Pol a0) 0)), (3, vi (i6 + 1))], stab [], 0⟩ ?_ ?_
      ·
       refine q1 (vi i6) ?_
       refine step (v := vi (i6 + 1)) (st_inc (inc_ok hinv9 hgo8 hB7) rfl rfl) ?_
       refine q1 (vi (i6 + 1)) ?_
       exact nR []
      exact And.intro rfl rfl
    ·
     rintro i6 ⟨⟩ hinv9 hgo8
     show NWp _ _ _ _ _ ⟨tab [(1, .d (.cptr (some 4) (uapi_Pol a0) 0)), (3, vi i6)], stab [], 0⟩
     have hc10 : ¬ (decide (i6 < (a0.Kids.length : Int)) = true) := fun hq => hgo8 (of_decide_eq_true hq)
     refine NWp.seq ?_
     refine NWp.opsJ ⟨tab [(1, .d (.cptr (some 4) (uapi_Pol a0) 0)), (3, vi i6), (29, vb (decide (i6 < (a0.Kids.length : Int))))], stab [], 0⟩ ?_ ?_
     ·
      refine q1 (vi i6) ?_
      refine q1 (.d (.cptr (some 4) (uapi_Pol a0) 3)) ?_
      refine q1 (vl0 a0.Kids) ?_
      refine step (v := vi (a0.Kids.length : Int)) (st_len (xs := a0.Kids) (e := eapi_Pol) rfl) ?_
      refine q1 (vb (decide (i6 < (a0.Kids.length : Int)))) ?_
      exact nR []
     refine NWp.condF (t := decide (i6 < (a0.Kids.length : Int))) rfl hc10 ?_
     refine NWp.norm (s0 := ⟨tab [], stab [], 0⟩) (nr []) ?_
     refine NWp.exit ?_
     exact And.intro rfl rfl
    ·
     intro r' hq
     subst hq
     exact Option.some.inj h
    rintro ⟨⟩ rfl
    have hh := Option.some.inj h
    subst hh
    exact And.intro rfl rfl
   ·
    replace h := iteF hc5 h
    refine NWp.condF (t := ((a0.Op == 6) || (a0.Op == 7))) rfl hc5 ?_
    have hh := Option.some.inj h
    subst hh
    refine NWp.norm (s0 := ⟨tab [], stab [], 0⟩) (nr []) ?_
    refine NWp.skip ?_
    exact And.intro rfl rfl
  ·
   intro r' hq
   subst hq
   exact Option.some.inj h
  rintro ⟨⟩ rfl
  show NWp _ _ _ _ _ ⟨tab [], stab [], 0⟩
  refine NWp.opsJ ⟨tab [(2, vb true)], stab [], 0⟩ ?_ ?_
  ·
   refine q1 (vb true) ?_
   exact nR []
  have hh := Option.some.inj h
  subst hh
  refine NWp.ret ?_
  show FQ _ _ _ _
  exact FQ.mk1 (.inr rfl) (res_t (v := vb true) rfl rfl) (RV.d trivial)

theorem c_ref05_Predicate_f : ∀ (k : Nat) (a0 : api_Pol) (r : Bool), ref05_Predicate_f k a0 = some r → PCall Try.prog 45 [uapi_Pol a0] (.bool r)
 | 0, _, _, h => by cases h
 | k + 1, _, _, h => c_ref05_Predicate_s (c_ref05_Predicate_f k) h

theorem c_ref05_Predicate {a0 : api_Pol} {r : Bool} (h : ref05_Predicate a0 = some r) : PCall Try.prog 45 [uapi_Pol a0] (.bool r) := c_ref05_Predicate_f FUEL _ _ h

theorem c_ref05_formed_s {self : api_Pol → Int → Option Bool} (hself : ∀ (a0 : api_Pol) (a1 : Int) (r : Bool), self a0 a1 = some r → PCall Try.prog 79 [uapi_Pol a0, .int .i64 a1] (.bool r)) {a0 : api_Pol} {a1 : Int} {r : Bool} (h : ref05_formed_s self a0 a1 = some r) : PCall Try.prog 79 [uapi_Pol a0, .int .i64 a1] (.bool r) := by
 refine PCall.introN ok79 (show 2 ≤ 127 by decide) ?_
 refine NWp.norm (s0 := ⟨tab [(0, .d (uapi_Pol a0)), (1, vi a1)], stab [], 0⟩) (nr []) ?_
 refine NWp.opsJ ⟨tab [(1, vi a1), (2, .d (.cptr (some 4) (uapi_Pol a0) 0))], stab [], 0⟩ ?_ ?_
 ·
  refine q1 (.d (.cptr (some 4) (uapi_Pol a0) 0)) ?_
  refine q1 (vb false) ?_
  exact nR []
 refine NWp.opsJ ⟨tab [(1, vi a1), (2, .d (.cptr (some 4) (uapi_Pol a0) 0)), (5, vi (a0.Kids.length : Int))], stab [], 0⟩ ?_ ?_
 ·
  refine q1 (.d (.cptr (some 4) (uapi_Pol a0) 3)) ?_
  refine q1 (vl0 a0.Kids) ?_
  refine step (v := vi (a0.Kids.length : Int)) (st_len (xs := a0.Kids) (e := eapi_Pol) rfl) ?_
  refine q1 (vi (a0.Kids.length : Int)) ?_
  exact nR []
 refine NWp.seq ?_
 refine NWp.opsJ ⟨tab [(1, vi a1), (2, .d (.cptr (some 4) (uapi_Pol a0) 0)), (5, vi (a0.Kids.length : Int)), (11, vi a0.Op)], stab [], 0⟩ ?_ ?_
 ·
  refine q1 (.d (.cptr (some 4) (uapi_Pol a0) 0)) ?_
  refine q1 (vi a0.Op) ?_
  exact nR []
 refine NWp.block ?_
 obtain ⟨y2, hv, h⟩ := bindE h
 refine NWp.seqN ⟨tab [(1, vi a1), (2, .d (.cptr (some 4) (uapi_Pol a0) 0)), (5, vi (a0.Kids.length : Int)), (11, vi a0.Op), (12, vb y2)], stab [], 0⟩ ?_ ?_
 ·
  replace h := hv
  refine NWp.opsJ ⟨tab [(1, vi a1), (2, .d (.cptr (some 4) (uapi_Pol a0) 0)), (5, vi (a0.Kids.length : Int)), (11, vi a0.Op), (12, vb (a0.Op == 0))], stab [], 0⟩ ?_ ?_
  ·
   refine q1 (vb (a0.Op == 0)) ?_
   refine q1 (vb (a0.Op == 0)) ?_
   exact nR []
  by_cases hc1 : (a0.Op == 0) = true
  ·
   replace h := iteT hc1 h
   refine NWp.condT (t := (a0.Op == 0)) rfl hc1 ?_
   have hh := Option.some.inj h
   subst hh
   refine NWp.norm (s0 := ⟨tab [(1, vi a1), (2, .d (.cptr (some 4) (uapi_Pol a0) 0)), (5, vi (a0.Kids.length : Int)), (11, vi a0.Op), (12, vb (a0.Op == 0))], stab [], 0⟩) (nr []) ?_
   refine NWp.skip ?_
   exact And.intro rfl rfl
  ·
   replace h := iteF hc1 h
   refine NWp.condF (t := (a0.Op == 0)) rfl hc1 ?_
   have hh := Option.some.inj h
   subst hh
   refine NWp.opsE ⟨tab [(1, vi a1), (2, .d (.cptr (some 4) (uapi_Pol a0) 0)), (5, vi (a0.Kids.length : Int)), (11, vi a0.Op), (12, vb (a0.Op == 1))], stab [], 0⟩ ?_ ?_
   ·
    refine q1 (vb (a0.Op == 1)) ?_
    refine q1 (vb (a0.Op == 1)) ?_
    exact nR []
   exact And.intro rfl rfl
 by_cases hc4 : y2 = true
 ·
  replace h := iteT hc4 h
  refine NWp.condT (t := y2) rfl hc4 ?_
  refine NWp.opsJ ⟨tab [(4, vb (((a0.Kids.length : Int) == 0) && ((a0.F == 0) && (a0.N == 0))))], stab [], 0⟩ ?_ ?_
  ·
   refine q1 (vi (a0.Kids.length : Int)) ?_
   refine q1 (vb ((a0.Kids.length : Int) == 0)) ?_
   refine q1 (vb ((a0.Kids.length : Int) == 0)) ?_
   by_cases hg5 : ((a0.Kids.length : Int) == 0) = true
   ·
    refine qG ((a0.Kids.length : Int) == 0) hg5 ?_
    refine q1 (.d (.cptr (some 4) (uapi_Pol a0) 1)) ?_
    refine qG ((a0.Kids.length : Int) == 0) hg5 ?_
    refine q1 (vi a0.F) ?_
    refine qG ((a0.Kids.length : Int) == 0) hg5 ?_
    refine q1 (vb (a0.F == 0)) ?_
    refine step (v := vb (a0.F == 0)) (st_pickT (b := ((a0.Kids.length : Int) == 0)) rfl hg5 rfl) ?_
    refine q1 (vb (a0.F == 0)) ?_
    by_cases hg6 : (a0.F == 0) = true
    ·
     refine qG (a0.F == 0) hg6 ?_
     refine q1 (.d (.cptr (some 4) (uapi_Pol a0) 2)) ?_
     refine qG (a0.F == 0) hg6 ?_
     refine q1 (.d (.int .u16 a0.N)) ?_
     refine qG (a0.F == 0) hg6 ?_
     refine q1 (vb (a0.N == 0)) ?_
     refine step (v := vb (a0.N == 0)) (st_pickT (b := (a0.F == 0)) rfl hg6 rfl) ?_
     refine q1 (vb (a0.N == 0)) ?_
     exact RunOps.nil' (nm [] ⟨.eq (by first | (simp [hg5, hg6]; done) | (simp_all; done) | grind), trivial⟩ trivial)
    ·
     refine qX (a0.F == 0) hg6 ?_
     refine qX (a0.F == 0) hg6 ?_
     refine qX (a0.F == 0) hg6 ?_
     refine step (v := vb false) (st_pickF (b := (a0.F == 0)) rfl hg6 rfl) ?_
     refine q1 (vb false) ?_
     exact RunOps.nil' (nm [] ⟨.eq (by first | (simp [hg5, hg6]; done) | (simp_all; done) | grind), trivial⟩ trivial)
   ·
    refine qX ((a0.Kids.length : Int) == 0) hg5 ?_
    refine qX ((a0.Kids.length : Int) == 0) hg5 ?_
    refine qX ((a0.Kids.length : Int) == 0) hg5 ?_
    refine step (v := vb false) (st_pickF (b := ((a0.Kids.length : Int) == 0)) rfl hg5 rfl) ?_
    refine q1 (vb false) ?_
    refine qX false (by decide) ?_
    refine qX false (by decide) ?_
    refine qX false (by decide) ?_
    refine step (v := vb false) (st_pickF (b := false) rfl (by decide) rfl) ?_
    refine q1 (vb false) ?_
    exact RunOps.nil' (nm [] ⟨.eq (by first | (simp [hg5]; done) | (simp_all; done) | grind), trivial⟩ trivial)
  have hh := Option.some.inj h
  subst hh
  refine NWp.ret ?_
  show FQ _ _ _ _
  exact FQ.mk1 (.inr rfl) (res_t (v := vb (((a0.Kids.length : Int) == 0) && ((a0.F == 0) && (a0.N == 0)))) rfl rfl) (RV.d trivial)
 ·
  replace h := iteF hc4 h
  refine NWp.condF (t := y2) rfl hc4 ?_
  refine NWp.opsJ ⟨tab [(1, vi a1), (2, .d (.cptr (some 4) (uapi_Pol a0) 0)), (5, vi (a0.Kids.length : Int)), (11, vi a0.Op), (27, vb (a0.Op == 2))], stab [], 0⟩ ?_ ?_
  ·
   refine q1 (vb (a0.Op == 2)) ?_
   refine q1 (vb (a0.Op == 2)) ?_
   exact nR []
  by_cases hc7 : (a0.Op == 2) = true
  ·
   replace h := iteT hc7 h
   refine NWp.condT (t := (a0.Op == 2)) rfl hc7 ?_
   refine NWp.opsJ ⟨tab [(4, vb (((a0.Kids.length : Int) == 0) && ((decide (a0.F ≥ 0)) && (decide (a0.F < 8)))))], stab [], 0⟩ ?_ ?_
   ·
    refine q1 (vi (a0.Kids.length : Int)) ?_
    refine q1 (vb ((a0.Kids.length : Int) == 0)) ?_
    refine q1 (vb ((a0.Kids.length : Int) == 0)) ?_
    by_cases hg8 : ((a0.Kids.length : Int) == 0) = true
    ·
     refine qG ((a0.Kids.length : Int) == 0) hg8 ?_
     refine q1 (.d (.cptr (some 4) (uapi_Pol a0) 1)) ?_
     refine qG ((a0.Kids.length : Int) == 0) hg8 ?_
     refine q1 (vi a0.F) ?_
     refine qG ((a0.Kids.length : Int) == 0) hg8 ?_
     refine q1 (vb (decide (a0.F ≥ 0))) ?_
     refine step (v := vb (decide (a0.F ≥ 0))) (st_pickT (b := ((a0.Kids.length : Int) == 0)) rfl hg8 rfl) ?_
     refine q1 (vb (decide (a0.F ≥ 0))) ?_
     by_cases hg9 : decide (a0.F ≥ 0) = true
     ·
      refine qG (decide (a0.F ≥ 0)) hg9 ?_
      refine q1 (.d (.cptr (some 4) (uapi_Pol a0) 1)) ?_
      refine qG (decide (a0.F ≥ 0)) hg9 ?_
      refine q1 (vi a0.F) ?_
      refine qG (decide (a0.F ≥ 0)) hg9 ?_
      refine q1 (vb (decide (a0.F < 8))) ?_
      refine step (v := vb (decide (a0.F < 8))) (st_pickT (b := decide (a0.F ≥ 0)) rfl hg9 rfl) ?_
      refine q1 (vb (decide (a0.F < 8))) ?_
      exact RunOps.nil' (nm [] ⟨.eq (by first | (simp [hg8, hg9]; done) | (simp_all; done) | grind), trivial⟩ trivial)
     ·
      refine qX (decide (a0.F ≥ 0)) hg9 ?_
      refine qX (decide (a0.F ≥ 0)) hg9 ?_
      refine qX (decide (a0.F ≥ 0)) hg9 ?_
      refine step (v := vb false) (st_pickF (b := decide (a0.F ≥ 0)) rfl hg9 rfl) ?_
      refine q1 (vb false) ?_
      exact RunOps.nil' (nm [] ⟨.eq (by first | (simp [hg8, hg9]; done) | (simp_all; done) | grind), trivial⟩ trivial)
    ·
     refine qX ((a0.Kids.length : Int) == 0) hg8 ?_
     refine qX ((a0.Kids.length : Int) == 0) hg8 ?_
     refine qX ((a0.Kids.length : Int) == 0) hg8 ?_
     refine step (v := vb false) (st_pickF (b := ((a0.Kids.length : Int) == 0)) rfl hg8 rfl) ?_
     refine q1 (vb false) ?_
     refine qX false (by decide) ?_
     refine qX false (by decide) ?_
     refine qX false (by decide) ?_
     refine step (v := vb false) (st_pickF (b := false) rfl (by decide) rfl) ?_
     refine q1 (vb false) ?_
     exact RunOps.nil' (nm [] ⟨.eq (by first | (simp [hg8]; done) | (simp_all; done) | grind), trivial⟩ trivial)
   have hh := Option.some.inj h
   subst hh
   refine NWp.ret ?_
   show FQ _ _ _ _
   exact FQ.mk1 (.inr rfl) (res_t (v := vb (((a0.Kids.length : Int) == 0) && ((decide (a0.F ≥ 0)) && (decide (a0.F < 8))))) rfl rfl) (RV.d trivial)
  ·
   replace h := iteF hc7 h
   refine NWp.condF (t := (a0.Op == 2)) rfl hc7 ?_
   refine NWp.opsJ ⟨tab [(1, vi a1), (2, .d (.cptr (some 4) (uapi_Pol a0) 0)), (5, vi (a0.Kids.length : Int)), (11, vi a0.Op), (41, vb (a0.Op == 3))], stab [], 0⟩ ?_ ?_
   ·
    refine q1 (vb (a0.Op == 3)) ?_
    refine q1 (vb (a0.Op == 3)) ?_
    exact nR []
   by_cases hc10 : (a0.Op == 3) = true
   ·
    replace h := iteT hc10 h
    refine NWp.condT (t := (a0.Op == 3)) rfl hc10 ?_
    refine NWp.opsJ ⟨tab [(4, vb (((a0.Kids.length : Int) == 0) && ((decide (a0.F ≥ 0)) && (decide (a0.F < a1)))))], stab [], 0⟩ ?_ ?_
    ·
     refine q1 (vi (a0.Kids.length : Int)) ?_
     refine q1 (vb ((a0.Kids.length : Int) == 0)) ?_
     refine q1 (vb ((a0.Kids.length : Int) == 0)) ?_
     by_cases hg11 : ((a0.Kids.length : Int) == 0) = true
     ·
      refine qG ((a0.Kids.length : Int) == 0) hg11 ?_
      refine q1 (.d (.cptr (some 4) (uapi_Pol a0) 1)) ?_
      refine qG ((a0.Kids.length : Int) == 0) hg11 ?_
      refine q1 (vi a0.F) ?_
      refine qG ((a0.Kids.length : Int) == 0) hg11 ?_
      refine q1 (vb (decide (a0.F ≥ 0))) ?_
      refine step (v := vb (decide (a0.F ≥ 0))) (st_pickT (b := ((a0.Kids.length : Int) == 0)) rfl hg11 rfl) ?_
      refine q1 (vb (decide (a0.F ≥ 0))) ?_
      by_cases hg12 : decide (a0.F ≥ 0) = true
      ·
       refine qG (decide (a0.F ≥ 0)) hg12 ?_
       refine q1 (.d (.cptr (some 4) (uapi_Pol a0) 1)) ?_
       refine qG (decide (a0.F ≥ 0)) hg12 ?_
       refine q1 (vi a0.F) ?_
       refine qG (decide (a0.F ≥ 0)) hg12 ?_
       refine q1 (vi a1) ?_
       refine qG (decide (a0.F ≥ 0)) hg12 ?_
       refine q1 (vb (decide (a0.F < a1))) ?_
       refine step (v := vb (decide (a0.F < a1))) (st_pickT (b := decide (a0.F ≥ 0)) rfl hg12 rfl) ?_
       refine q1 (vb (decide (a0.F < a1))) ?_
       exact RunOps.nil' (nm [] ⟨.eq (by first | (simp [hg11, hg12]; done) | (simp_all; done) | grind), trivial⟩ trivial)
      ·
       refine qX (decide (a0.F ≥ 0)) hg12 ?_
       refine qX (decide (a0.F ≥ 0)) hg12 ?_
       refine qX (decide (a0.F ≥ 0)) hg12 ?_
       refine qX (decide (a0.F ≥ 0)) hg12 ?_
       refine step (v := vb false) (st_pickF (b := decide (a0.F ≥ 0)) rfl hg12 rfl) ?_
       refine q1 (vb false) ?_
       exact RunOps.nil' (nm [] ⟨.eq (by first | (simp [hg11, hg12]; done) | (simp_all; done) | grind), trivial⟩ trivial)
     ·
      refine qX ((a0.Kids.length : Int) == 0) hg11 ?_
      refine qX ((a0.Kids.length : Int) == 0) hg11 ?_
      refine qX ((a0.Kids.length : Int) == 0) hg11 ?_
      refine step (v := vb false) (st_pickF (b := ((a0.Kids.length : Int) == 0)) rfl hg11 rfl) ?_
      refine q1 (vb false) ?_
      refine qX false (by decide) ?_
      refine qX false (by decide) ?_
      refine qX false (by decide) ?_
      refine qX false (by decide) ?_
      refine step (v := vb false) (st_pickF (b := false) rfl (by decide) rfl) ?_
      refine q1 (vb false) ?_
      exact RunOps.nil' (nm [] ⟨.eq (by first | (simp [hg11]; done) | (simp_all; done) | grind), trivial⟩ trivial)
    have hh := Option.some.inj h
    subst hh
    refine NWp.ret ?_
    show FQ _ _ _ _
    exact FQ.mk1 (.inr rfl) (res_t (v := vb (((a0.Kids.length : Int) == 0) && ((decide (a0.F ≥ 0)) && (decide (a0.F < a1))))) rfl rfl) (RV.d trivial)
   ·
    replace h := iteF hc10 h
    refine NWp.condF (t := (a0.Op == 3)) rfl hc10 ?_
    refine NWp.opsJ ⟨tab [(1, vi a1), (2, .d (.cptr (some 4) (uapi_Pol a0) 0)), (5, vi (a0.Kids.length : Int)), (11, vi a0.Op), (56, vb (a0.Op == 5))], stab [], 0⟩ ?_ ?_
    ·
     refine q1 (vb (a0.Op == 5)) ?_
     refine q1 (vb (a0.Op == 5)) ?_
     exact nR []
    by_cases hc13 : (a0.Op == 5) = true
    ·
     replace h := iteT hc13 h
     refine NWp.condT (t := (a0.Op == 5)) rfl hc13 ?_
     refine NWp.opsJ ⟨tab [(4, vb (((a0.Kids.length : Int) == 0) && ((decide (a0.F ≥ 1)) && (decide (a0.F < 8)))))], stab [], 0⟩ ?_ ?_
     ·
      refine q1 (vi (a0.Kids.length : Int)) ?_
      refine q1 (vb ((a0.Kids.length : Int) == 0)) ?_
      refine q1 (vb ((a0.Kids.length : Int) == 0)) ?_
      by_cases hg14 : ((a0.Kids.length : Int) == 0) = true
      ·
       refine qG ((a0.Kids.length : Int) == 0) hg14 ?_
       refine q1 (.d (.cptr (some 4) (uapi_Pol a0) 1)) ?_
       refine qG ((a0.Kids.length : Int) == 0) hg14 ?_
       refine q1 (vi a0.F) ?_
       refine qG ((a0.Kids.length : Int) == 0) hg14 ?_
       refine q1 (vb (decide (a0.F ≥ 1))) ?_
       refine step (v := vb (decide (a0.F ≥ 1))) (st_pickT (b := ((a0.Kids.length : Int) == 0)) rfl hg14 rfl) ?_
       refine q1 (vb (decide (a0.F ≥ 1))) ?_
       by_cases hg15 : decide (a0.F ≥ 1) = true
       ·
        refine qG (decide (a0.F ≥ 1)) hg15 ?_
        refine q1 (.d (.cptr (some 4) (uapi_Pol a0) 1)) ?_
        refine qG (decide (a0.F ≥ 1)) hg15 ?_
        refine q1 (vi a0.F) ?_
        refine qG (decide (a0.F ≥ 1)) hg15 ?_
        refine q1 (vb (decide (a0.F < 8))) ?_
        refine step (v := vb (decide (a0.F < 8))) (st_pickT (b := decide (a0.F ≥ 1)) rfl hg15 rfl) ?_
        refine q1 (vb (decide (a0.F < 8))) ?_
        exact RunOps.nil' (nm [] ⟨.eq (by first | (simp [hg14, hg15]; done) | (simp_all; done) | grind), trivial⟩ trivial)
       ·
        refine qX (decide (a0.F ≥ 1)) hg15 ?_
        refine qX (decide (a0.F ≥ 1)) hg15 ?_
        refine qX (decide (a0.F ≥ 1)) hg15 ?_
        refine step (v := vb false) (st_pickF (b := decide (a0.F ≥ 1)) rfl hg15 rfl) ?_
        refine q1 (vb false) ?_
        exact RunOps.nil' (nm [] ⟨.eq (by first | (simp [hg14, hg15]; done) | (simp_all; done) | grind), trivial⟩ trivial)
      ·
       refine qX ((a0.Kids.length : Int) == 0) hg14 ?_
       refine qX ((a0.Kids.length : Int) == 0) hg14 ?_
       refine qX ((a0.Kids.length : Int) == 0) hg14 ?_
       refine step (v := vb false) (st_pickF (b := ((a0.Kids.length : Int) == 0)) rfl hg14 rfl) ?_
       refine q1 (vb false) ?_
       refine qX false (by decide) ?_
       refine qX false (by decide) ?_
       refine qX false (by decide) ?_
       refine step (v := vb false) (st_pickF (b := false) rfl (by decide) rfl) ?_
       refine q1 (vb false) ?_
       exact RunOps.nil' (nm [] ⟨.eq (by first | (simp [hg14]; done) | (simp_all; done) | grind), trivial⟩ trivial)
     have hh := Option.some.inj h
     subst hh
     refine NWp.ret ?_
     show FQ _ _ _ _
     exact FQ.mk1 (.inr rfl) (res_t (v := vb (((a0.Kids.length : Int) == 0) && ((decide (a0.F ≥ 1)) && (decide (a0.F < 8))))) rfl rfl) (RV.d trivial)
    ·
     replace h := iteF hc13 h
     refine NWp.condF (t := (a0.Op == 5)) rfl hc13 ?_
     refine NWp.opsJ ⟨tab [(1, vi a1), (2, .d (.cptr (some 4) (uapi_Pol a0) 0)), (5, vi (a0.Kids.length : Int)), (11, vi a0.Op), (70, vb (a0.Op == 4))], stab [], 0⟩ ?_ ?_
     ·
      refine q1 (vb (a0.Op == 4)) ?_
      refine q1 (vb (a0.Op == 4)) ?_
      exact nR []
     by_cases hc16 : (a0.Op == 4) = true
     ·
      replace h := iteT hc16 h
      refine NWp.condT (t := (a0.Op == 4)) rfl hc16 ?_
      obtain ⟨y24, hv, h⟩ := bindE h
      refine NWp.opsJ ⟨tab [(4, vb y24)], stab [], 0⟩ ?_ ?_
      ·
       refine q1 (vi (a0.Kids.length : Int)) ?_
       refine q1 (vb ((a0.Kids.length : Int) == 1)) ?_
       refine q1 (vb ((a0.Kids.length : Int) == 1)) ?_
       by_cases hg17 : ((a0.Kids.length : Int) == 1) = true
       ·
        replace hv := iteT hg17 hv
        refine qG ((a0.Kids.length : Int) == 1) hg17 ?_
        refine q1 (.d (.cptr (some 4) (uapi_Pol a0) 1)) ?_
        refine qG ((a0.Kids.length : Int) == 1) hg17 ?_
        refine q1 (vi a0.F) ?_
        refine qG ((a0.Kids.length : Int) == 1) hg17 ?_
        refine q1 (vb (a0.F == 0)) ?_
        refine step (v := vb (a0.F == 0)) (st_pickT (b := ((a0.Kids.length : Int) == 1)) rfl hg17 rfl) ?_
        refine q1 (vb (a0.F == 0)) ?_
        by_cases hg18 : (a0.F == 0) = true
        ·
         replace hv := iteT hg18 hv
         refine qG (a0.F == 0) hg18 ?_
         refine q1 (.d (.cptr (some 4) (uapi_Pol a0) 2)) ?_
         refine qG (a0.F == 0) hg18 ?_
         refine q1 (.d (.int .u16 a0.N)) ?_
         refine qG (a0.F == 0) hg18 ?_
         refine q1 (vb (a0.N == 0)) ?_
         refine step (v := vb (a0.N == 0)) (st_pickT (b := (a0.F == 0)) rfl hg18 rfl) ?_
         refine q1 (vb (a0.N == 0)) ?_
         by_cases hg19 : (a0.N == 0) = true
         ·
          replace hv := iteT hg19 hv
          obtain ⟨x20, hx20, hv⟩ := bindE hv
          obtain ⟨r21, hr21, hv⟩ := bindE hv
          refine qG (a0.N == 0) hg19 ?_
          refine q1 (.d (.cptr (some 4) (uapi_Pol a0) 3)) ?_
          refine qG (a0.N == 0) hg19 ?_
          refine q1 (vl0 a0.Kids) ?_
          refine qG (a0.N == 0) hg19 ?_
          refine step (v := .d (.cptr (some 4) (uapi_Pol x20) 0)) (st_iaddrU (xs := a0.Kids) (e := eapi_Pol) hx20 rfl rfl (eu_api_Pol _)) ?_
          refine qG (a0.N == 0) hg19 ?_
          refine q1 (.d (uapi_Pol x20)) ?_
          refine qG (a0.N == 0) hg19 ?_
          refine stepC (r := .bool r21) (ArgsOk.dt ArgsOk.nil') (c_ref05_Predicate hr21) ?_
          refine step (v := vb r21) (st_pickT (b := (a0.N == 0)) rfl hg19 rfl) ?_
          refine q1 (vb r21) ?_
          by_cases hg22 : r21 = true
          ·
           replace hv := iteT hg22 hv
           obtain ⟨r23, hr23, hv⟩ := bindE hv
           refine qG r21 hg22 ?_
           refine q1 (.d (.cptr (some 4) (uapi_Pol a0) 3)) ?_
           refine qG r21 hg22 ?_
           refine q1 (vl0 a0.Kids) ?_
           refine qG r21 hg22 ?_
           refine step (v := .d (.cptr (some 4) (uapi_Pol x20) 0)) (st_iaddrU (xs := a0.Kids) (e := eapi_Pol) hx20 rfl rfl (eu_api_Pol _)) ?_
           refine qG r21 hg22 ?_
           refine q1 (.d (uapi_Pol x20)) ?_
           refine qG r21 hg22 ?_
           refine q1 (vi a1) ?_
           refine qG r21 hg22 ?_
           refine stepC (r := .bool r23) (ArgsOk.dt (ArgsOk.dt ArgsOk.nil')) (hself _ _ _ hr23) ?_
           refine step (v := vb r23) (st_pickT (b := r21) rfl hg22 rfl) ?_
           refine q1 (vb r23) ?_
           have hh := Option.some.inj hv
           subst hh
           exact nR []
          ·
           replace hv := iteF hg22 hv
           refine qX r21 hg22 ?_
           refine qX r21 hg22 ?_
           refine qX r21 hg22 ?_
           refine qX r21 hg22 ?_
           refine qX r21 hg22 ?_
           refine qX r21 hg22 ?_
           refine step (v := vb false) (st_pickF (b := r21) rfl hg22 rfl) ?_
           refine q1 (vb false) ?_
           have hh := Option.some.inj hv
           subst hh
           exact nR []
         ·
          replace hv := iteF hg19 hv
          refine qX (a0.N == 0) hg19 ?_
          refine qX (a0.N == 0) hg19 ?_
          refine qX (a0.N == 0) hg19 ?_
          refine qX (a0.N == 0) hg19 ?_
          refine qX (a0.N == 0) hg19 ?_
          refine step (v := vb false) (st_pickF (b := (a0.N == 0)) rfl hg19 rfl) ?_
          refine q1 (vb false) ?_
          refine qX false (by decide) ?_
          refine qX false (by decide) ?_
          refine qX false (by decide) ?_
          refine qX false (by decide) ?_
          refine qX false (by decide) ?_
          refine qX false (by decide) ?_
          refine step (v := vb false) (st_pickF (b := false) rfl (by decide) rfl) ?_
          refine q1 (vb false) ?_
          have hh := Option.some.inj hv
          subst hh
          exact nR []
        ·
         replace hv := iteF hg18 hv
         refine qX (a0.F == 0) hg18 ?_
         refine qX (a0.F == 0) hg18 ?_
         refine qX (a0.F == 0) hg18 ?_
         refine step (v := vb false) (st_pickF (b := (a0.F == 0)) rfl hg18 rfl) ?_
         refine q1 (vb false) ?_
         refine qX false (by decide) ?_
         refine qX false (by decide) ?_
         refine qX false (by decide) ?_
         refine qX false (by decide) ?_
         refine qX false (by decide) ?_
         refine step (v := vb false) (st_pickF (b := false) rfl (by decide) rfl) ?_
         refine q1 (vb false) ?_
         refine qX false (by decide) ?_
         refine qX false (by decide) ?_
         refine qX false (by decide) ?_
         refine qX false (by decide) ?_
         refine qX false (by decide) ?_
         refine qX false (by decide) ?_
         refine step (v := vb false) (st_pickF (b := false) rfl (by decide) rfl) ?_
         refine q1 (vb false) ?_
         have hh := Option.some.inj hv
         subst hh
         exact nR []
       ·
        replace hv := iteF hg17 hv
        refine qX ((a0.Kids.length : Int) == 1) hg17 ?_
        refine qX ((a0.Kids.length : Int) == 1) hg17 ?_
        refine qX ((a0.Kids.length : Int) == 1) hg17 ?_
        refine step (v := vb false) (st_pickF (b := ((a0.Kids.length : Int) == 1)) rfl hg17 rfl) ?_
        refine q1 (vb false) ?_
        refine qX false (by decide) ?_
        refine qX false (by decide) ?_
        refine qX false (by decide) ?_
        refine step (v := vb false) (st_pickF (b := false) rfl (by decide) rfl) ?_
        refine q1 (vb false) ?_
        refine qX false (by decide) ?_
        refine qX false (by decide) ?_
        refine qX false (by decide) ?_
        refine qX false (by decide) ?_
        refine qX false (by decide) ?_
        refine step (v := vb false) (st_pickF (b := false) rfl (by decide) rfl) ?_
        refine q1 (vb false) ?_
        refine qX false (by decide) ?_
        refine qX false (by decide) ?_
        refine qX false (by decide) ?_
        refine qX false (by decide) ?_
        refine qX false (by decide) ?_
        refine qX false (by decide) ?_
        refine step (v := vb false) (st_pickF (b := false) rfl (by decide) rfl) ?_
        refine q1 (vb false) ?_
        have hh := Option.some.inj hv
        subst hh
        exact nR []
      have hh := Option.some.inj h
      subst hh
      refine NWp.ret ?_
      show FQ _ _ _ _
      exact FQ.mk1 (.inr rfl) (res_t (v := vb y24) rfl rfl) (RV.d trivial)
     ·
      replace h := iteF hc16 h
      refine NWp.condF (t := (a0.Op == 4)) rfl hc16 ?_
      obtain ⟨y27, hv, h⟩ := bindE h
      refine NWp.seqN ⟨tab [(1, vi a1), (2, .d (.cptr (some 4) (uapi_Pol a0) 0)), (5, vi (a0.Kids.length : Int)), (99, vb y27)], stab [], 0⟩ ?_ ?_
      ·
       replace h := hv
       refine NWp.opsJ ⟨tab [(1, vi a1), (2, .d (.cptr (some 4) (uapi_Pol a0) 0)), (5, vi (a0.Kids.length : Int)), (11, vi a0.Op), (99, vb (a0.Op == 6))], stab [], 0⟩ ?_ ?_
       ·
        refine q1 (vb (a0.Op == 6)) ?_
        refine q1 (vb (a0.Op == 6)) ?_
        exact nR []
       by_cases hc26 : (a0.Op == 6) = true
       ·
        replace h := iteT hc26 h
        refine NWp.condT (t := (a0.Op == 6)) rfl hc26 ?_
        have hh := Option.some.inj h
        subst hh
        refine NWp.norm (s0 := ⟨tab [(1, vi a1), (2, .d (.cptr (some 4) (uapi_Pol a0) 0)), (5, vi (a0.Kids.length : Int)), (99, vb (a0.Op == 6))], stab [], 0⟩) (nr []) ?_
        refine NWp.skip ?_
        exact And.intro rfl rfl
       ·
        replace h := iteF hc26 h
        refine NWp.condF (t := (a0.Op == 6)) rfl hc26 ?_
        have hh := Option.some.inj h
        subst hh
        refine NWp.opsE ⟨tab [(1, vi a1), (2, .d (.cptr (some 4) (uapi_Pol a0) 0)), (5, vi (a0.Kids.length : Int)), (99, vb (a0.Op == 7))], stab [], 0⟩ ?_ ?_
        ·
         refine q1 (vb (a0.Op == 7)) ?_
         refine q1 (vb (a0.Op == 7)) ?_
         exact nR []
        exact And.intro rfl rfl
      by_cases hc29 : y27 = true
      ·
       replace h := iteT hc29 h
       refine NWp.condT (t := y27) rfl hc29 ?_
       refine NWp.seq ?_
       refine NWp.opsJ ⟨tab [(1, vi a1), (2, .d (.cptr (some 4) (uapi_Pol a0) 0)), (5, vi (a0.Kids.length : Int)), (113, vb ((decide ((a0.Kids.length : Int) < 2)) || ((a0.F != 0) || (a0.N != 0))))], stab [], 0⟩ ?_ ?_
       ·
        refine q1 (vi (a0.Kids.length : Int)) ?_
        refine q1 (vb (decide ((a0.Kids.length : Int) < 2))) ?_
        refine q1 (vb (decide ((a0.Kids.length : Int) < 2))) ?_
        by_cases hg30 : decide ((a0.Kids.length : Int) < 2) = true
        ·
         refine qX (decide ((a0.Kids.length : Int) < 2)) (by rw [hg30]; decide) ?_
         refine qX (decide ((a0.Kids.length : Int) < 2)) (by rw [hg30]; decide) ?_
         refine qX (decide ((a0.Kids.length : Int) < 2)) (by rw [hg30]; decide) ?_
         refine step (v := vb true) (st_pickT (b := decide ((a0.Kids.length : Int) < 2)) rfl hg30 rfl) ?_
         refine q1 (vb true) ?_
         refine qX true (by decide) ?_
         refine qX true (by decide) ?_
         refine qX true (by decide) ?_
         refine step (v := vb true) (st_pickT (b := true) rfl rfl rfl) ?_
         exact RunOps.nil' (nm [] ⟨.d _, .d _, .d _, .eq (by first | (simp [hg30]; done) | (simp_all; done) | grind), trivial⟩ trivial)
        ·
         refine qG (decide ((a0.Kids.length : Int) < 2)) (Bool.eq_false_iff.2 hg30) ?_
         refine q1 (.d (.cptr (some 4) (uapi_Pol a0) 1)) ?_
         refine qG (decide ((a0.Kids.length : Int) < 2)) (Bool.eq_false_iff.2 hg30) ?_
         refine q1 (vi a0.F) ?_
         refine qG (decide ((a0.Kids.length : Int) < 2)) (Bool.eq_false_iff.2 hg30) ?_
         refine q1 (vb (a0.F != 0)) ?_
         refine step (v := vb (a0.F != 0)) (st_pickF (b := decide ((a0.Kids.length : Int) < 2)) rfl hg30 rfl) ?_
         refine q1 (vb (a0.F != 0)) ?_
         by_cases hg31 : (a0.F != 0) = true
         ·
          refine qX (a0.F != 0) (by rw [hg31]; decide) ?_
          refine qX (a0.F != 0) (by rw [hg31]; decide) ?_
          refine qX (a0.F != 0) (by rw [hg31]; decide) ?_
          refine step (v := vb true) (st_pickT (b := (a0.F != 0)) rfl hg31 rfl) ?_
          exact RunOps.nil' (nm [] ⟨.d _, .d _, .d _, .eq (by first | (simp [hg30, hg31]; done) | (simp_all; done) | grind), trivial⟩ trivial)
         ·
          refine qG (a0.F != 0) (Bool.eq_false_iff.2 hg31) ?_
          refine q1 (.d (.cptr (some 4) (uapi_Pol a0) 2)) ?_
          refine qG (a0.F != 0) (Bool.eq_false_iff.2 hg31) ?_
          refine q1 (.d (.int .u16 a0.N)) ?_
          refine qG (a0.F != 0) (Bool.eq_false_iff.2 hg31) ?_
          refine q1 (vb (a0.N != 0)) ?_
          refine step (v := vb (a0.N != 0)) (st_pickF (b := (a0.F != 0)) rfl hg31 rfl) ?_
          exact RunOps.nil' (nm [] ⟨.d _, .d _, .d _, .eq (by first | (simp [hg30, hg31]; done) | (simp_all; done) | grind), trivial⟩ trivial)
       by_cases hc32 : ((decide ((a0.Kids.length : Int) < 2)) || ((a0.F != 0) || (a0.N != 0))) = true
       ·
        replace h := iteT hc32 h
        refine NWp.condT (t := ((decide ((a0.Kids.length : Int) < 2)) || ((a0.F != 0) || (a0.N != 0)))) rfl hc32 ?_
        refine NWp.opsJ ⟨tab [(4, vb false)], stab [], 0⟩ ?_ ?_
        ·
         refine q1 (vb false) ?_
         exact nR []
        have hh := Option.some.inj h
        subst hh
        refine NWp.ret ?_
        show FQ _ _ _ _
        exact FQ.mk1 (.inr rfl) (res_t (v := vb false) rfl rfl) (RV.d trivial)
       ·
        replace h := iteF hc32 h
        refine NWp.condF (t := ((decide ((a0.Kids.length : Int) < 2)) || ((a0.F != 0) || (a0.N != 0)))) rfl hc32 ?_
        refine NWp.skip ?_
        refine NWp.seq ?_
        refine NWp.opsJ ⟨tab [(1, vi a1), (2, .d (.cptr (some 4) (uapi_Pol a0) 0)), (5, vi (a0.Kids.length : Int)), (6, vi 0)], stab [], 0⟩ ?_ ?_
        ·
         refine q1 (vi 0) ?_
         exact nR []
        obtain ⟨q42, hl, h⟩ := bindE h
        refine NWp.block ?_
        refine loop_forR (cntU (a0.Kids.length : Int)) (fun (i33 : Int) (qq : Unit) => ⟨tab [(1, vi a1), (2, .d (.cptr (some 4) (uapi_Pol a0) 0)), (5, vi (a0.Kids.length : Int)), (6, vi i33)], stab [], 0⟩) 1 (fun (qq : Unit) => ⟨tab [], stab [], 0⟩) Low low_step (r := r) hl (by unfold Low; omega) ?_ ?_ ?_ ?_
        ·
         rintro i33 ⟨⟩ xr38 hinv36 hgo35 h
         show NWp _ _ _ _ _ ⟨tab [(1, vi a1), (2, .d (.cptr (some 4) (uapi_Pol a0) 0)), (5, vi (a0.Kids.length : Int)), (6, vi i33)], stab [], 0⟩
         have hc37 : decide (i33 < (a0.Kids.length : Int)) = true := decide_eq_true hgo35
         refine NWp.seq ?_
         refine NWp.opsJ ⟨tab [(1, vi a1), (2, .d (.cptr (some 4) (uapi_Pol a0) 0)), (5, vi (a0.Kids.length : Int)), (6, vi i33), (115, vi (a0.Kids.length : Int)), (116, vb (decide (i33 < (a0.Kids.length : Int))))], stab [], 0⟩ ?_ ?_
         ·
          refine q1 (vi i33) ?_
          refine q1 (vi (a0.Kids.length : Int)) ?_
          refine q1 (vb (decide (i33 < (a0.Kids.length : Int)))) ?_
          exact nR []
         refine NWp.rng 115 rfl fun hB34 => ?_
         refine NWp.condT (t := decide (i33 < (a0.Kids.length : Int))) rfl hc37 ?_
         refine NWp.skip ?_
         refine NWp.seq ?_
         refine NWp.block ?_
         obtain ⟨x39, hx39, h⟩ := bindE h
         obtain ⟨r40, hr40, h⟩ := bindE h
         refine NWp.opsJ ⟨tab [(1, vi a1), (2, .d (.cptr (some 4) (uapi_Pol a0) 0)), (5, vi (a0.Kids.length : Int)), (6, vi i33), (126, vb (!r40))], stab [], 0⟩ ?_ ?_
         ·
          refine q1 (.d (.cptr (some 4) (uapi_Pol a0) 3)) ?_
          refine q1 (vl0 a0.Kids) ?_
          refine q1 (vi i33) ?_
          refine step (v := .d (.cptr (some 4) (uapi_Pol x39) 0)) (st_iaddrU (xs := a0.Kids) (e := eapi_Pol) hx39 rfl rfl (eu_api_Pol _)) ?_
          refine q1 (.d (uapi_Pol x39)) ?_
          refine q1 (vi a1) ?_
          refine stepC (r := .bool r40) (ArgsOk.dt (ArgsOk.dt ArgsOk.nil')) (hself _ _ _ hr40) ?_
          refine q1 (vb (!r40)) ?_
          exact nR []
         by_cases hc41 : (!r40) = true
         ·
          replace h := iteT hc41 h
          refine NWp.condT (t := (!r40)) rfl hc41 ?_
          refine NWp.opsJ ⟨tab [(4, vb false)], stab [], 0⟩ ?_ ?_
          ·
           refine q1 (vb false) ?_
           exact nR []
          obtain ⟨r42, kr42, hr⟩ := mapE (o := some false) (g := Br.ret) h
          subst hr
          have h := kr42
          have hh := Option.some.inj h
          subst hh
          refine NWp.ret ?_
          refine And.intro (fun hn => nomatch hn) ?_
          intro hq
          have hq := hq.symm
          subst hq
          show FQ _ _ _ _
          exact FQ.mk1 (.inr rfl) (res_t (v := vb false) rfl rfl) (RV.d trivial)
         ·
          replace h := iteF hc41 h
          refine NWp.condF (t := (!r40)) rfl hc41 ?_
          refine NWp.skip ?_
          have hh := Option.some.inj h
          subst hh
          refine NWp.opsE ⟨tab [(1, vi a1), (2, .d (.cptr (some 4) (uapi_Pol a0) 0)), (5, vi (a0.Kids.length : Int)), (6, vi (i33 + 1))], stab [], 0⟩ ?_ ?_
          ·
           refine q1 (vi i33) ?_
           refine step (v := vi (i33 + 1)) (st_inc (inc_ok hinv36 hgo35 hB34) rfl rfl) ?_
           refine q1 (vi (i33 + 1)) ?_
           exact nR []
          exact And.intro rfl rfl
        ·
         rintro i33 ⟨⟩ hinv36 hgo35
         show NWp _ _ _ _ _ ⟨tab [(1, vi a1), (2, .d (.cptr (some 4) (uapi_Pol a0) 0)), (5, vi (a0.Kids.length : Int)), (6, vi i33)], stab [], 0⟩
         have hc37 : ¬ (decide (i33 < (a0.Kids.length : Int)) = true) := fun hq => hgo35 (of_decide_eq_true hq)
         refine NWp.seq ?_
         refine NWp.opsJ ⟨tab [(1, vi a1), (2, .d (.cptr (some 4) (uapi_Pol a0) 0)), (5, vi (a0.Kids.length : Int)), (6, vi i33), (116, vb (decide (i33 < (a0.Kids.length : Int))))], stab [], 0⟩ ?_ ?_
         ·
          refine q1 (vi i33) ?_
          refine q1 (vi (a0.Kids.length : Int)) ?_
          refine q1 (vb (decide (i33 < (a0.Kids.length : Int)))) ?_
          exact nR []
         refine NWp.condF (t := decide (i33 < (a0.Kids.length : Int))) rfl hc37 ?_
         refine NWp.norm (s0 := ⟨tab [], stab [], 0⟩) (nr []) ?_
         refine NWp.exit ?_
         exact And.intro rfl rfl
        ·
         intro r' hq
         subst hq
         exact Option.some.inj h
        rintro ⟨⟩ rfl
        refine NWp.opsJ ⟨tab [(4, vb true)], stab [], 0⟩ ?_ ?_
        ·
         refine q1 (vb true) ?_
         exact nR []
        have hh := Option.some.inj h
        subst hh
        refine NWp.ret ?_
        show FQ _ _ _ _
        exact FQ.mk1 (.inr rfl) (res_t (v := vb true) rfl rfl) (RV.d trivial)
      ·
       replace h := iteF hc29 h
       refine NWp.condF (t := y27) rfl hc29 ?_
       refine NWp.skip ?_
       refine NWp.opsJ ⟨tab [(4, vb false)], stab [], 0⟩ ?_ ?_
       ·
        refine q1 (vb false) ?_
        exact nR []
       have hh := Option.some.inj h
       subst hh
       refine NWp.ret ?_
       show FQ _ _ _ _
       exact FQ.mk1 (.inr rfl) (res_t (v := vb false) rfl rfl) (RV.d trivial)

theorem c_ref05_formed_f : ∀ (k : Nat) (a0 : api_Pol) (a1 : Int) (r : Bool), ref05_formed_f k a0 a1 = some r → PCall Try.prog 79 [uapi_Pol a0, .int .i64 a1] (.bool r)
 | 0, _, _, _, h => by cases h
 | k + 1, _, _, _, h => c_ref05_formed_s (c_ref05_formed_f k) h

theorem c_ref05_formed {a0 : api_Pol} {a1 : Int} {r : Bool} (h : ref05_formed a0 a1 = some r) : PCall Try.prog 79 [uapi_Pol a0, .int .i64 a1] (.bool r) := c_ref05_formed_f FUEL _ _ _ h

theorem c_ref05_rising {a0 : (List api_Pair)} {a1 : Int} {r : Bool} (h : ref05_rising a0 a1 = some r) : PCall Try.prog 80 [eL (some 2) eapi_Pair a0, .int .i64 a1] (.bool r) := by
 refine PCall.introN ok80 (show 2 ≤ 45 by decide) ?_
 refine NWp.norm (s0 := ⟨tab [(0, vl1 a0), (1, vi a1)], stab [], 0⟩) (nr []) ?_
 refine NWp.opsJ ⟨tab [(0, vl1 a0), (1, vi a1)], stab [], 0⟩ ?_ ?_
 ·
  refine q1 (vb false) ?_
  exact nR []
 refine NWp.seq ?_
 refine NWp.opsJ ⟨tab [(0, vl1 a0), (1, vi a1), (5, vi 0)], stab [], 0⟩ ?_ ?_
 ·
  refine q1 (vi 0) ?_
  exact nR []
 obtain ⟨q15, hl, h⟩ := bindE h
 refine NWp.block ?_
 refine loop_forR (cntU (a0.length : Int)) (fun (i1 : Int) (qq : Unit) => ⟨tab [(0, vl1 a0), (1, vi a1), (5, vi i1)], stab [], 0⟩) 0 (fun (qq : Unit) => ⟨tab [], stab [], 0⟩) Low low_step (r := r) hl (by unfold Low; omega) ?_ ?_ ?_ ?_
 ·
  rintro i1 ⟨⟩ xr6 hinv4 hgo3 h
  show NWp _ _ _ _ _ ⟨tab [(0, vl1 a0), (1, vi a1), (5, vi i1)], stab [], 0⟩
  have hc5 : decide (i1 < (a0.length : Int)) = true := decide_eq_true hgo3
  refine NWp.seq ?_
  refine NWp.opsJ ⟨tab [(0, vl1 a0), (1, vi a1), (5, vi i1), (8, vi (a0.length : Int)), (9, vb (decide (i1 < (a0.length : Int))))], stab [], 0⟩ ?_ ?_
  ·
   refine q1 (vi i1) ?_
   refine q1 (vl1 a0) ?_
   refine step (v := vi (a0.length : Int)) (st_len (xs := a0) (e := eapi_Pair) rfl) ?_
   refine q1 (vb (decide (i1 < (a0.length : Int)))) ?_
   exact nR []
  refine NWp.rng 8 rfl fun hB2 => ?_
  refine NWp.condT (t := decide (i1 < (a0.length : Int))) rfl hc5 ?_
  refine NWp.skip ?_
  refine NWp.seq ?_
  refine NWp.block ?_
  obtain ⟨x7, hx7, h⟩ := bindE h
  obtain ⟨y12, hv, h⟩ := bindE h
  refine NWp.opsJ ⟨tab [(0, vl1 a0), (1, vi a1), (5, vi i1), (44, vb y12)], stab [], 0⟩ ?_ ?_
  ·
   refine q1 (vl1 a0) ?_
   refine q1 (vi i1) ?_
   refine step (v := .d (.cptr (some 2) (eapi_Pair x7) 0)) (st_iaddr (xs := a0) (e := eapi_Pair) hx7 rfl rfl) ?_
   refine q1 (.d (.cptr (some 2) (eapi_Pair x7) 0)) ?_
   refine q1 (vi x7.F) ?_
   refine q1 (vb (decide (x7.F < 0))) ?_
   refine q1 (vb (decide (x7.F < 0))) ?_
   by_cases hg8 : decide (x7.F < 0) = true
   ·
    replace hv := iteT hg8 hv
    refine qX (decide (x7.F < 0)) (by rw [hg8]; decide) ?_
    refine qX (decide (x7.F < 0)) (by rw [hg8]; decide) ?_
    refine qX (decide (x7.F < 0)) (by rw [hg8]; decide) ?_
    refine qX (decide (x7.F < 0)) (by rw [hg8]; decide) ?_
    refine qX (decide (x7.F < 0)) (by rw [hg8]; decide) ?_
    refine qX (decide (x7.F < 0)) (by rw [hg8]; decide) ?_
    refine qX (decide (x7.F < 0)) (by rw [hg8]; decide) ?_
    refine step (v := vb true) (st_pickT (b := decide (x7.F < 0)) rfl hg8 rfl) ?_
    refine q1 (vb true) ?_
    refine qX true (by decide) ?_
    refine qX true (by decide) ?_
    refine qX true (by decide) ?_
    refine stepXX rfl ?_
    refine stepXX rfl ?_
    refine stepXX rfl ?_
    refine stepXX rfl ?_
    refine stepXX rfl ?_
    refine stepXX rfl ?_
    refine stepXX rfl ?_
    refine stepXX rfl ?_
    refine stepXX rfl ?_
    refine stepXX rfl ?_
    refine stepXX rfl ?_
    refine stepXX rfl ?_
    refine qX true (by decide) ?_
    refine step (v := vb true) (st_pickT (b := true) rfl rfl rfl) ?_
    have hh := Option.some.inj hv
    subst hh
    exact nR []
   ·
    replace hv := iteF hg8 hv
    refine qG (decide (x7.F < 0)) (Bool.eq_false_iff.2 hg8) ?_
    refine q1 (vl1 a0) ?_
    refine qG (decide (x7.F < 0)) (Bool.eq_false_iff.2 hg8) ?_
    refine q1 (vi i1) ?_
    refine qG (decide (x7.F < 0)) (Bool.eq_false_iff.2 hg8) ?_
    refine step (v := .d (.cptr (some 2) (eapi_Pair x7) 0)) (st_iaddr (xs := a0) (e := eapi_Pair) hx7 rfl rfl) ?_
    refine qG (decide (x7.F < 0)) (Bool.eq_false_iff.2 hg8) ?_
    refine q1 (.d (.cptr (some 2) (eapi_Pair x7) 0)) ?_
    refine qG (decide (x7.F < 0)) (Bool.eq_false_iff.2 hg8) ?_
    refine q1 (vi x7.F) ?_
    refine qG (decide (x7.F < 0)) (Bool.eq_false_iff.2 hg8) ?_
    refine q1 (vi a1) ?_
    refine qG (decide (x7.F < 0)) (Bool.eq_false_iff.2 hg8) ?_
    refine q1 (vb (decide (x7.F ≥ a1))) ?_
    refine step (v := vb (decide (x7.F ≥ a1))) (st_pickF (b := decide (x7.F < 0)) rfl hg8 rfl) ?_
    refine q1 (vb (decide (x7.F ≥ a1))) ?_
    by_cases hg9 : decide (x7.F ≥ a1) = true
    ·
     replace hv := iteT hg9 hv
     refine qX (decide (x7.F ≥ a1)) (by rw [hg9]; decide) ?_
     refine qX (decide (x7.F ≥ a1)) (by rw [hg9]; decide) ?_
     refine qX (decide (x7.F ≥ a1)) (by rw [hg9]; decide) ?_
     refine stepXX rfl ?_
     refine stepXX rfl ?_
     refine stepXX rfl ?_
     refine stepXX rfl ?_
     refine stepXX rfl ?_
     refine stepXX rfl ?_
     refine stepXX rfl ?_
     refine stepXX rfl ?_
     refine stepXX rfl ?_
     refine stepXX rfl ?_
     refine stepXX rfl ?_
     refine stepXX rfl ?_
     refine qX (decide (x7.F ≥ a1)) (by rw [hg9]; decide) ?_
     refine step (v := vb true) (st_pickT (b := decide (x7.F ≥ a1)) rfl hg9 rfl) ?_
     have hh := Option.some.inj hv
     subst hh
     exact nR []
    ·
     replace hv := iteF hg9 hv
     refine qG (decide (x7.F ≥ a1)) (Bool.eq_false_iff.2 hg9) ?_
     refine q1 (vi i1) ?_
     refine qG (decide (x7.F ≥ a1)) (Bool.eq_false_iff.2 hg9) ?_
     refine q1 (vb (decide (i1 > 0))) ?_
     refine qG (decide (x7.F ≥ a1)) (Bool.eq_false_iff.2 hg9) ?_
     refine q1 (vb (decide (i1 > 0))) ?_
     by_cases hg10 : decide (i1 > 0) = true
     ·
      replace hv := iteT hg10 hv
      obtain ⟨x11, hx11, hv⟩ := bindE hv
      refine qG (decide (i1 > 0)) hg10 ?_
      refine q1 (vl1 a0) ?_
      refine qG (decide (i1 > 0)) hg10 ?_
      refine q1 (vi i1) ?_
      refine qG (decide (i1 > 0)) hg10 ?_
      refine q1 (vi (IntKind.i64.wrap (i1 - 1))) ?_
      refine qG (decide (i1 > 0)) hg10 ?_
      refine step (v := .d (.cptr (some 2) (eapi_Pair x11) 0)) (st_iaddr (xs := a0) (e := eapi_Pair) hx11 rfl rfl) ?_
      refine qG (decide (i1 > 0)) hg10 ?_
      refine q1 (.d (.cptr (some 2) (eapi_Pair x11) 0)) ?_
      refine qG (decide (i1 > 0)) hg10 ?_
      refine q1 (vi x11.F) ?_
      refine qG (decide (i1 > 0)) hg10 ?_
      refine q1 (vl1 a0) ?_
      refine qG (decide (i1 > 0)) hg10 ?_
      refine q1 (vi i1) ?_
      refine qG (decide (i1 > 0)) hg10 ?_
      refine step (v := .d (.cptr (some 2) (eapi_Pair x7) 0)) (st_iaddr (xs := a0) (e := eapi_Pair) hx7 rfl rfl) ?_
      refine qG (decide (i1 > 0)) hg10 ?_
      refine q1 (.d (.cptr (some 2) (eapi_Pair x7) 0)) ?_
      refine qG (decide (i1 > 0)) hg10 ?_
      refine q1 (vi x7.F) ?_
      refine qG (decide (i1 > 0)) hg10 ?_
      refine q1 (vb (decide (x11.F ≥ x7.F))) ?_
      refine qG (decide (x7.F ≥ a1)) (Bool.eq_false_iff.2 hg9) ?_
      refine step (v := vb (decide (x11.F ≥ x7.F))) (st_pickT (b := decide (i1 > 0)) rfl hg10 rfl) ?_
      refine step (v := vb (decide (x11.F ≥ x7.F))) (st_pickF (b := decide (x7.F ≥ a1)) rfl hg9 rfl) ?_
      have hh := Option.some.inj hv
      subst hh
      exact nR []
     ·
      replace hv := iteF hg10 hv
      refine qX (decide (i1 > 0)) hg10 ?_
      refine qX (decide (i1 > 0)) hg10 ?_
      refine qX (decide (i1 > 0)) hg10 ?_
      refine qX (decide (i1 > 0)) hg10 ?_
      refine qX (decide (i1 > 0)) hg10 ?_
      refine qX (decide (i1 > 0)) hg10 ?_
      refine qX (decide (i1 > 0)) hg10 ?_
      refine qX (decide (i1 > 0)) hg10 ?_
      refine qX (decide (i1 > 0)) hg10 ?_
      refine qX (decide (i1 > 0)) hg10 ?_
      refine qX (decide (i1 > 0)) hg10 ?_
      refine qX (decide (i1 > 0)) hg10 ?_
      refine qG (decide (x7.F ≥ a1)) (Bool.eq_false_iff.2 hg9) ?_
      refine step (v := vb false) (st_pickF (b := decide (i1 > 0)) rfl hg10 rfl) ?_
      refine step (v := vb false) (st_pickF (b := decide (x7.F ≥ a1)) rfl hg9 rfl) ?_
      have hh := Option.some.inj hv
      subst hh
      exact nR []
  by_cases hc14 : y12 = true
  ·
   replace h := iteT hc14 h
   refine NWp.condT (t := y12) rfl hc14 ?_
   refine NWp.opsJ ⟨tab [(4, vb false)], stab [], 0⟩ ?_ ?_
   ·
    refine q1 (vb false) ?_
    exact nR []
   obtain ⟨r15, kr15, hr⟩ := mapE (o := some false) (g := Br.ret) h
   subst hr
   have h := kr15
   have hh := Option.some.inj h
   subst hh
   refine NWp.ret ?_
   refine And.intro (fun hn => nomatch hn) ?_
   intro hq
   have hq := hq.symm
   subst hq
   show FQ _ _ _ _
   exact FQ.mk1 (.inr rfl) (res_t (v := vb false) rfl rfl) (RV.d trivial)
  ·
   replace h := iteF hc14 h
   refine NWp.condF (t := y12) rfl hc14 ?_
   refine NWp.skip ?_
   have hh := Option.some.inj h
   subst hh
   refine NWp.opsE ⟨tab [(0, vl1 a0), (1, vi a1), (5, vi (i1 + 1))], stab [], 0⟩ ?_ ?_
   ·
    refine q1 (vi i1) ?_
    refine step (v := vi (i1 + 1)) (st_inc (inc_ok hinv4 hgo3 hB2) rfl rfl) ?_
    refine q1 (vi (i1 + 1)) ?_
    exact nR []
   exact And.intro rfl rfl
 ·
  rintro i1 ⟨⟩ hinv4 hgo3
  show NWp _ _ _ _ _ ⟨tab [(0, vl1 a0), (1, vi a1), (5, vi i1)], stab [], 0⟩
  have hc5 : ¬ (decide (i1 < (a0.length : Int)) = true) := fun hq => hgo3 (of_decide_eq_true hq)
  refine NWp.seq ?_
  refine NWp.opsJ ⟨tab [(0, vl1 a0), (1, vi a1), (5, vi i1), (9, vb (decide (i1 < (a0.length : Int))))], stab [], 0⟩ ?_ ?_
  ·
   refine q1 (vi i1) ?_
   refine q1 (vl1 a0) ?_
   refine step (v := vi (a0.length : Int)) (st_len (xs := a0) (e := eapi_Pair) rfl) ?_
   refine q1 (vb (decide (i1 < (a0.length : Int)))) ?_
   exact nR []
  refine NWp.condF (t := decide (i1 < (a0.length : Int))) rfl hc5 ?_
  refine NWp.norm (s0 := ⟨tab [], stab [], 0⟩) (nr []) ?_
  refine NWp.exit ?_
  exact And.intro rfl rfl
 ·
  intro r' hq
  subst hq
  exact Option.some.inj h
 rintro ⟨⟩ rfl
 refine NWp.opsJ ⟨tab [(4, vb true)], stab [], 0⟩ ?_ ?_
 ·
  refine q1 (vb true) ?_
  exact nR []
 have hh := Option.some.inj h
 subst hh
 refine NWp.ret ?_
 show FQ _ _ _ _
 exact FQ.mk1 (.inr rfl) (res_t (v := vb true) rfl rfl) (RV.d trivial)

theorem c_ref05_Check {a0 : api_Program} {r : Int} (h : ref05_Check a0 = some r) : PCall Try.prog 51 [eapi_Program a0] (.int .i64 r) := by
 refine PCall.introN ok51 (show 1 ≤ 102 by decide) ?_
 refine NWp.norm (s0 := ⟨tab [(0, .d (eapi_Program a0))], stab [], 0⟩) (nr []) ?_
 refine NWp.opsJ ⟨tab [(1, .d (.cptr (some 6) (eapi_Program a0) 0))], stab [], 0⟩ ?_ ?_
 ·
  refine q1 (.d (.cptr (some 6) (eapi_Program a0) 0)) ?_
  refine q1 (vi 0) ?_
  exact nR []
 refine NWp.seq ?_
 obtain ⟨y7, hv, h⟩ := bindE h
 refine NWp.opsJ ⟨tab [(1, .d (.cptr (some 6) (eapi_Program a0) 0)), (32, vb y7)], stab [], 0⟩ ?_ ?_
 ·
  refine q1 (.d (.cptr (some 6) (eapi_Program a0) 0)) ?_
  refine q1 (vl2 a0.Init) ?_
  refine step (v := vi (a0.Init.length : Int)) (st_len (xs := a0.Init) (e := (D.int .u16)) rfl) ?_
  refine q1 (vb (decide ((a0.Init.length : Int) < 1))) ?_
  refine q1 (vb (decide ((a0.Init.length : Int) < 1))) ?_
  by_cases hg1 : decide ((a0.Init.length : Int) < 1) = true
  ·
   replace hv := iteT hg1 hv
   refine qX (decide ((a0.Init.length : Int) < 1)) (by rw [hg1]; decide) ?_
   refine qX (decide ((a0.Init.length : Int) < 1)) (by rw [hg1]; decide) ?_
   refine qX (decide ((a0.Init.length : Int) < 1)) (by rw [hg1]; decide) ?_
   refine qX (decide ((a0.Init.length : Int) < 1)) (by rw [hg1]; decide) ?_
   refine step (v := vb true) (st_pickT (b := decide ((a0.Init.length : Int) < 1)) rfl hg1 rfl) ?_
   refine q1 (vb true) ?_
   refine qX true (by decide) ?_
   refine qX true (by decide) ?_
   refine qX true (by decide) ?_
   refine qX true (by decide) ?_
   refine step (v := vb true) (st_pickT (b := true) rfl rfl rfl) ?_
   refine q1 (vb true) ?_
   refine qX true (by decide) ?_
   refine qX true (by decide) ?_
   refine qX true (by decide) ?_
   refine qX true (by decide) ?_
   refine step (v := vb true) (st_pickT (b := true) rfl rfl rfl) ?_
   refine q1 (vb true) ?_
   refine qX true (by decide) ?_
   refine qX true (by decide) ?_
   refine qX true (by decide) ?_
   refine qX true (by decide) ?_
   refine step (v := vb true) (st_pickT (b := true) rfl rfl rfl) ?_
   have hh := Option.some.inj hv
   subst hh
   exact nR []
  ·
   replace hv := iteF hg1 hv
   refine qG (decide ((a0.Init.length : Int) < 1)) (Bool.eq_false_iff.2 hg1) ?_
   refine q1 (.d (.cptr (some 6) (eapi_Program a0) 0)) ?_
   refine qG (decide ((a0.Init.length : Int) < 1)) (Bool.eq_false_iff.2 hg1) ?_
   refine q1 (vl2 a0.Init) ?_
   refine qG (decide ((a0.Init.length : Int) < 1)) (Bool.eq_false_iff.2 hg1) ?_
   refine step (v := vi (a0.Init.length : Int)) (st_len (xs := a0.Init) (e := (D.int .u16)) rfl) ?_
   refine qG (decide ((a0.Init.length : Int) < 1)) (Bool.eq_false_iff.2 hg1) ?_
   refine q1 (vb (decide ((a0.Init.length : Int) > 4))) ?_
   refine step (v := vb (decide ((a0.Init.length : Int) > 4))) (st_pickF (b := decide ((a0.Init.length : Int) < 1)) rfl hg1 rfl) ?_
   refine q1 (vb (decide ((a0.Init.length : Int) > 4))) ?_
   by_cases hg2 : decide ((a0.Init.length : Int) > 4) = true
   ·
    replace hv := iteT hg2 hv
    refine qX (decide ((a0.Init.length : Int) > 4)) (by rw [hg2]; decide) ?_
    refine qX (decide ((a0.Init.length : Int) > 4)) (by rw [hg2]; decide) ?_
    refine qX (decide ((a0.Init.length : Int) > 4)) (by rw [hg2]; decide) ?_
    refine qX (decide ((a0.Init.length : Int) > 4)) (by rw [hg2]; decide) ?_
    refine step (v := vb true) (st_pickT (b := decide ((a0.Init.length : Int) > 4)) rfl hg2 rfl) ?_
    refine q1 (vb true) ?_
    refine qX true (by decide) ?_
    refine qX true (by decide) ?_
    refine qX true (by decide) ?_
    refine qX true (by decide) ?_
    refine step (v := vb true) (st_pickT (b := true) rfl rfl rfl) ?_
    refine q1 (vb true) ?_
    refine qX true (by decide) ?_
    refine qX true (by decide) ?_
    refine qX true (by decide) ?_
    refine qX true (by decide) ?_
    refine step (v := vb true) (st_pickT (b := true) rfl rfl rfl) ?_
    have hh := Option.some.inj hv
    subst hh
    exact nR []
   ·
    replace hv := iteF hg2 hv
    obtain ⟨r3, hr3, hv⟩ := bindE hv
    refine qG (decide ((a0.Init.length : Int) > 4)) (Bool.eq_false_iff.2 hg2) ?_
    refine q1 (.d (.cptr (some 6) (eapi_Program a0) 1)) ?_
    refine qG (decide ((a0.Init.length : Int) > 4)) (Bool.eq_false_iff.2 hg2) ?_
    refine q1 (.d (uapi_Pol a0.Pol)) ?_
    refine qG (decide ((a0.Init.length : Int) > 4)) (Bool.eq_false_iff.2 hg2) ?_
    refine stepC (r := .int .i64 r3) (ArgsOk.dt ArgsOk.nil') (c_ref05_Size hr3) ?_
    refine qG (decide ((a0.Init.length : Int) > 4)) (Bool.eq_false_iff.2 hg2) ?_
    refine q1 (vb (decide (r3 > 300))) ?_
    refine step (v := vb (decide (r3 > 300))) (st_pickF (b := decide ((a0.Init.length : Int) > 4)) rfl hg2 rfl) ?_
    refine q1 (vb (decide (r3 > 300))) ?_
    by_cases hg4 : decide (r3 > 300) = true
    ·
     replace hv := iteT hg4 hv
     refine qX (decide (r3 > 300)) (by rw [hg4]; decide) ?_
     refine qX (decide (r3 > 300)) (by rw [hg4]; decide) ?_
     refine qX (decide (r3 > 300)) (by rw [hg4]; decide) ?_
     refine qX (decide (r3 > 300)) (by rw [hg4]; decide) ?_
     refine step (v := vb true) (st_pickT (b := decide (r3 > 300)) rfl hg4 rfl) ?_
     refine q1 (vb true) ?_
     refine qX true (by decide) ?_
     refine qX true (by decide) ?_
     refine qX true (by decide) ?_
     refine qX true (by decide) ?_
     refine step (v := vb true) (st_pickT (b := true) rfl rfl rfl) ?_
     have hh := Option.some.inj hv
     subst hh
     exact nR []
    ·
     replace hv := iteF hg4 hv
     obtain ⟨r5, hr5, hv⟩ := bindE hv
     refine qG (decide (r3 > 300)) (Bool.eq_false_iff.2 hg4) ?_
     refine q1 (.d (.cptr (some 6) (eapi_Program a0) 1)) ?_
     refine qG (decide (r3 > 300)) (Bool.eq_false_iff.2 hg4) ?_
     refine q1 (.d (uapi_Pol a0.Pol)) ?_
     refine qG (decide (r3 > 300)) (Bool.eq_false_iff.2 hg4) ?_
     refine stepC (r := .int .i64 r5) (ArgsOk.dt ArgsOk.nil') (c_ref05_Depth hr5) ?_
     refine qG (decide (r3 > 300)) (Bool.eq_false_iff.2 hg4) ?_
     refine q1 (vb (decide (r5 > 20))) ?_
     refine step (v := vb (decide (r5 > 20))) (st_pickF (b := decide (r3 > 300)) rfl hg4 rfl) ?_
     refine q1 (vb (decide (r5 > 20))) ?_
     by_cases hg6 : decide (r5 > 20) = true
     ·
      replace hv := iteT hg6 hv
      refine qX (decide (r5 > 20)) (by rw [hg6]; decide) ?_
      refine qX (decide (r5 > 20)) (by rw [hg6]; decide) ?_
      refine qX (decide (r5 > 20)) (by rw [hg6]; decide) ?_
      refine qX (decide (r5 > 20)) (by rw [hg6]; decide) ?_
      refine step (v := vb true) (st_pickT (b := decide (r5 > 20)) rfl hg6 rfl) ?_
      have hh := Option.some.inj hv
      subst hh
      exact nR []
     ·
      replace hv := iteF hg6 hv
      refine qG (decide (r5 > 20)) (Bool.eq_false_iff.2 hg6) ?_
      refine q1 (.d (.cptr (some 6) (eapi_Program a0) 5)) ?_
      refine qG (decide (r5 > 20)) (Bool.eq_false_iff.2 hg6) ?_
      refine q1 (vl4 a0.Rules) ?_
      refine qG (decide (r5 > 20)) (Bool.eq_false_iff.2 hg6) ?_
      refine step (v := vi (a0.Rules.length : Int)) (st_len (xs := a0.Rules) (e := eapi_Rule) rfl) ?_
      refine qG (decide (r5 > 20)) (Bool.eq_false_iff.2 hg6) ?_
      refine q1 (vb (decide ((a0.Rules.length : Int) > 24))) ?_
      refine step (v := vb (decide ((a0.Rules.length : Int) > 24))) (st_pickF (b := decide (r5 > 20)) rfl hg6 rfl) ?_
      have hh := Option.some.inj hv
      subst hh
      exact nR []
 by_cases hc9 : y7 = true
 ·
  replace h := iteT hc9 h
  refine NWp.condT (t := y7) rfl hc9 ?_
  refine NWp.opsJ ⟨tab [(2, vi 2)], stab [], 0⟩ ?_ ?_
  ·
   refine q1 (vi 2) ?_
   exact nR []
  have hh := Option.some.inj h
  subst hh
  refine NWp.ret ?_
  show FQ _ _ _ _
  exact FQ.mk1 (.inr rfl) (res_t (v := vi 2) rfl rfl) (RV.d trivial)
 ·
  replace h := iteF hc9 h
  refine NWp.condF (t := y7) rfl hc9 ?_
  refine NWp.skip ?_
  refine NWp.seq ?_
  obtain ⟨r10, hr10, h⟩ := bindE h
  refine NWp.opsJ ⟨tab [(1, .d (.cptr (some 6) (eapi_Program a0) 0)), (39, vb (!r10))], stab [], 0⟩ ?_ ?_
  ·
   refine q1 (.d (.cptr (some 6) (eapi_Program a0) 1)) ?_
   refine q1 (.d (uapi_Pol a0.Pol)) ?_
   refine q1 (.d (.cptr (some 6) (eapi_Program a0) 0)) ?_
   refine q1 (vl2 a0.Init) ?_
   refine step (v := vi (a0.Init.length : Int)) (st_len (xs := a0.Init) (e := (D.int .u16)) rfl) ?_
   refine stepC (r := .bool r10) (ArgsOk.dt (ArgsOk.dt ArgsOk.nil')) (c_ref05_formed hr10) ?_
   refine q1 (vb (!r10)) ?_
   exact nR []
  by_cases hc11 : (!r10) = true
  ·
   replace h := iteT hc11 h
   refine NWp.condT (t := (!r10)) rfl hc11 ?_
   refine NWp.opsJ ⟨tab [(2, vi 11)], stab [], 0⟩ ?_ ?_
   ·
    refine q1 (vi 11) ?_
    exact nR []
   have hh := Option.some.inj h
   subst hh
   refine NWp.ret ?_
   show FQ _ _ _ _
   exact FQ.mk1 (.inr rfl) (res_t (v := vi 11) rfl rfl) (RV.d trivial)
  ·
   replace h := iteF hc11 h
   refine NWp.condF (t := (!r10)) rfl hc11 ?_
   refine NWp.skip ?_
   refine NWp.seq ?_
   refine NWp.opsJ ⟨tab [(1, .d (.cptr (some 6) (eapi_Program a0) 0)), (3, vi 0)], stab [], 0⟩ ?_ ?_
   ·
    refine q1 (vi 0) ?_
    exact nR []
   obtain ⟨q33, hl, h⟩ := bindE h
   refine NWp.block ?_
   refine loop_forR (cntU (a0.Rules.length : Int)) (fun (i12 : Int) (qq : Unit) => ⟨tab [(1, .d (.cptr (some 6) (eapi_Program a0) 0)), (3, vi i12)], stab [], 0⟩) 0 (fun (qq : Unit) => ⟨tab [], stab [], 0⟩) Low low_step (r := r) hl (by unfold Low; omega) ?_ ?_ ?_ ?_
   ·
    rintro i12 ⟨⟩ xr17 hinv15 hgo14 h
    show NWp _ _ _ _ _ ⟨tab [(1, .d (.cptr (some 6) (eapi_Program a0) 0)), (3, vi i12)], stab [], 0⟩
    have hc16 : decide (i12 < (a0.Rules.length : Int)) = true := decide_eq_true hgo14
    refine NWp.seq ?_
    refine NWp.opsJ ⟨tab [(1, .d (.cptr (some 6) (eapi_Program a0) 0)), (3, vi i12), (43, vi (a0.Rules.length : Int)), (44, vb (decide (i12 < (a0.Rules.length : Int))))], stab [], 0⟩ ?_ ?_
    ·
     refine q1 (vi i12) ?_
     refine q1 (.d (.cptr (some 6) (eapi_Program a0) 5)) ?_
     refine q1 (vl4 a0.Rules) ?_
     refine step (v := vi (a0.Rules.length : Int)) (st_len (xs := a0.Rules) (e := eapi_Rule) rfl) ?_
     refine q1 (vb (decide (i12 < (a0.Rules.length : Int)))) ?_
     exact nR []
    refine NWp.rng 43 rfl fun hB13 => ?_
    refine NWp.condT (t := decide (i12 < (a0.Rules.length : Int))) rfl hc16 ?_
    refine NWp.skip ?_
    refine NWp.seq ?_
    refine NWp.block ?_
    obtain ⟨x18, hx18, h⟩ := bindE h
    refine NWp.opsJ ⟨tab [(1, .d (.cptr (some 6) (eapi_Program a0) 0)), (3, vi i12), (4, .ptr 0 0 0)], stab [(0, .var [vl1 x18.When, vl1 x18.Guard, vl1 x18.Then])], 1⟩ ?_ ?_
    ·
     refine q1 (.d (.cptr (some 6) (eapi_Program a0) 5)) ?_
     refine q1 (vl4 a0.Rules) ?_
     refine q1 (vi i12) ?_
     refine step (v := .d (.cptr (some 3) (eapi_Rule x18) 0)) (st_iaddr (xs := a0.Rules) (e := eapi_Rule) hx18 rfl rfl) ?_
     refine q1 (.d (eapi_Rule x18)) ?_
     refine step (v := .ptr 0 0 0) (σ' := (upd (stab []) 0 (some (.var [vl1 [], vl1 [], vl1 []])))) (n' := 1) rfl ?_
     refine step (v := V.undef) (σ' := (upd (upd (stab []) 0 (some (.var [vl1 [], vl1 [], vl1 []]))) 0 (some (.var [vl1 x18.When, vl1 x18.Guard, vl1 x18.Then])))) (n' := 1) rfl ?_
     exact nR [0]
    obtain ⟨y30, hv, h⟩ := bindE h
    refine NWp.opsJ ⟨tab [(1, .d (.cptr (some 6) (eapi_Program a0) 0)), (3, vi i12), (101, vb y30)], stab [], 0⟩ ?_ ?_
    ·
     refine q1 (.ptr 0 0 0) ?_
     refine q1 (vl1 x18.When) ?_
     refine step (v := vi (x18.When.length : Int)) (st_len (xs := x18.When) (e := eapi_Pair) rfl) ?_
     refine q1 (vb (decide ((x18.When.length : Int) < 2))) ?_
     refine q1 (vb (decide ((x18.When.length : Int) < 2))) ?_
     by_cases hg19 : decide ((x18.When.length : Int) < 2) = true
     ·
      replace hv := iteT hg19 hv
      refine qX (decide ((x18.When.length : Int) < 2)) (by rw [hg19]; decide) ?_
      refine qX (decide ((x18.When.length : Int) < 2)) (by rw [hg19]; decide) ?_
      refine qX (decide ((x18.When.length : Int) < 2)) (by rw [hg19]; decide) ?_
      refine qX (decide ((x18.When.length : Int) < 2)) (by rw [hg19]; decide) ?_
      refine qX (decide ((x18.When.length : Int) < 2)) (by rw [hg19]; decide) ?_
      refine qX (decide ((x18.When.length : Int) < 2)) (by rw [hg19]; decide) ?_
      refine step (v := vb true) (st_pickT (b := decide ((x18.When.length : Int) < 2)) rfl hg19 rfl) ?_
      refine q1 (vb true) ?_
      refine qX true (by decide) ?_
      refine qX true (by decide) ?_
      refine qX true (by decide) ?_
      refine qX true (by decide) ?_
      refine qX true (by decide) ?_
      refine qX true (by decide) ?_
      refine step (v := vb true) (st_pickT (b := true) rfl rfl rfl) ?_
      refine q1 (vb true) ?_
      refine qX true (by decide) ?_
      refine qX true (by decide) ?_
      refine qX true (by decide) ?_
      refine qX true (by decide) ?_
      refine step (v := vb true) (st_pickT (b := true) rfl rfl rfl) ?_
      refine q1 (vb true) ?_
      refine qX true (by decide) ?_
      refine qX true (by decide) ?_
      refine qX true (by decide) ?_
      refine qX true (by decide) ?_
      refine qX true (by decide) ?_
      refine qX true (by decide) ?_
      refine qX true (by decide) ?_
      refine step (v := vb true) (st_pickT (b := true) rfl rfl rfl) ?_
      refine q1 (vb true) ?_
      refine qX true (by decide) ?_
      refine qX true (by decide) ?_
      refine qX true (by decide) ?_
      refine qX true (by decide) ?_
      refine qX true (by decide) ?_
      refine qX true (by decide) ?_
      refine qX true (by decide) ?_
      refine step (v := vb true) (st_pickT (b := true) rfl rfl rfl) ?_
      refine q1 (vb true) ?_
      refine qX true (by decide) ?_
      refine qX true (by decide) ?_
      refine qX true (by decide) ?_
      refine qX true (by decide) ?_
      refine step (v := vb true) (st_pickT (b := true) rfl rfl rfl) ?_
      have hh := Option.some.inj hv
      subst hh
      exact nR []
     ·
      replace hv := iteF hg19 hv
      obtain ⟨x20, hx20, hv⟩ := bindE hv
      refine qG (decide ((x18.When.length : Int) < 2)) (Bool.eq_false_iff.2 hg19) ?_
      refine q1 (.ptr 0 0 0) ?_
      refine qG (decide ((x18.When.length : Int) < 2)) (Bool.eq_false_iff.2 hg19) ?_
      refine q1 (vl1 x18.When) ?_
      refine qG (decide ((x18.When.length : Int) < 2)) (Bool.eq_false_iff.2 hg19) ?_
      refine step (v := .d (.cptr (some 2) (eapi_Pair x20) 0)) (st_iaddr (xs := x18.When) (e := eapi_Pair) hx20 rfl rfl) ?_
      refine qG (decide ((x18.When.length : Int) < 2)) (Bool.eq_false_iff.2 hg19) ?_
      refine q1 (.d (.cptr (some 2) (eapi_Pair x20) 0)) ?_
      refine qG (decide ((x18.When.length : Int) < 2)) (Bool.eq_false_iff.2 hg19) ?_
      refine q1 (vi x20.F) ?_
      refine qG (decide ((x18.When.length : Int) < 2)) (Bool.eq_false_iff.2 hg19) ?_
      refine q1 (vb (x20.F != 0)) ?_
      refine step (v := vb (x20.F != 0)) (st_pickF (b := decide ((x18.When.length : Int) < 2)) rfl hg19 rfl) ?_
      refine q1 (vb (x20.F != 0)) ?_
      by_cases hg21 : (x20.F != 0) = true
      ·
       replace hv := iteT hg21 hv
       refine qX (x20.F != 0) (by rw [hg21]; decide) ?_
       refine qX (x20.F != 0) (by rw [hg21]; decide) ?_
       refine qX (x20.F != 0) (by rw [hg21]; decide) ?_
       refine qX (x20.F != 0) (by rw [hg21]; decide) ?_
       refine qX (x20.F != 0) (by rw [hg21]; decide) ?_
       refine qX (x20.F != 0) (by rw [hg21]; decide) ?_
       refine step (v := vb true) (st_pickT (b := (x20.F != 0)) rfl hg21 rfl) ?_
       refine q1 (vb true) ?_
       refine qX true (by decide) ?_
       refine qX true (by decide) ?_
       refine qX true (by decide) ?_
       refine qX true (by decide) ?_
       refine step (v := vb true) (st_pickT (b := true) rfl rfl rfl) ?_
       refine q1 (vb true) ?_
       refine qX true (by decide) ?_
       refine qX true (by decide) ?_
       refine qX true (by decide) ?_
       refine qX true (by decide) ?_
       refine qX true (by decide) ?_
       refine qX true (by decide) ?_
       refine qX true (by decide) ?_
       refine step (v := vb true) (st_pickT (b := true) rfl rfl rfl) ?_
       refine q1 (vb true) ?_
       refine qX true (by decide) ?_
       refine qX true (by decide) ?_
       refine qX true (by decide) ?_
       refine qX true (by decide) ?_
       refine qX true (by decide) ?_
       refine qX true (by decide) ?_
       refine qX true (by decide) ?_
       refine step (v := vb true) (st_pickT (b := true) rfl rfl rfl) ?_
       refine q1 (vb true) ?_
       refine qX true (by decide) ?_
       refine qX true (by decide) ?_
       refine qX true (by decide) ?_
       refine qX true (by decide) ?_
       refine step (v := vb true) (st_pickT (b := true) rfl rfl rfl) ?_
       have hh := Option.some.inj hv
       subst hh
       exact nR []
      ·
       replace hv := iteF hg21 hv
       obtain ⟨x22, hx22, hv⟩ := bindE hv
       refine qG (x20.F != 0) (Bool.eq_false_iff.2 hg21) ?_
       refine q1 (.ptr 0 0 0) ?_
       refine qG (x20.F != 0) (Bool.eq_false_iff.2 hg21) ?_
       refine q1 (vl1 x18.When) ?_
       refine qG (x20.F != 0) (Bool.eq_false_iff.2 hg21) ?_
       refine step (v := .d (.cptr (some 2) (eapi_Pair x22) 0)) (st_iaddr (xs := x18.When) (e := eapi_Pair) hx22 rfl rfl) ?_
       refine qG (x20.F != 0) (Bool.eq_false_iff.2 hg21) ?_
       refine q1 (.d (.cptr (some 2) (eapi_Pair x22) 0)) ?_
       refine qG (x20.F != 0) (Bool.eq_false_iff.2 hg21) ?_
       refine q1 (vi x22.F) ?_
       refine qG (x20.F != 0) (Bool.eq_false_iff.2 hg21) ?_
       refine q1 (vb (x22.F != 1)) ?_
       refine step (v := vb (x22.F != 1)) (st_pickF (b := (x20.F != 0)) rfl hg21 rfl) ?_
       refine q1 (vb (x22.F != 1)) ?_
       by_cases hg23 : (x22.F != 1) = true
       ·
        replace hv := iteT hg23 hv
        refine qX (x22.F != 1) (by rw [hg23]; decide) ?_
        refine qX (x22.F != 1) (by rw [hg23]; decide) ?_
        refine qX (x22.F != 1) (by rw [hg23]; decide) ?_
        refine qX (x22.F != 1) (by rw [hg23]; decide) ?_
        refine step (v := vb true) (st_pickT (b := (x22.F != 1)) rfl hg23 rfl) ?_
        refine q1 (vb true) ?_
        refine qX true (by decide) ?_
        refine qX true (by decide) ?_
        refine qX true (by decide) ?_
        refine qX true (by decide) ?_
        refine qX true (by decide) ?_
        refine qX true (by decide) ?_
        refine qX true (by decide) ?_
        refine step (v := vb true) (st_pickT (b := true) rfl rfl rfl) ?_
        refine q1 (vb true) ?_
        refine qX true (by decide) ?_
        refine qX true (by decide) ?_
        refine qX true (by decide) ?_
        refine qX true (by decide) ?_
        refine qX true (by decide) ?_
        refine qX true (by decide) ?_
        refine qX true (by decide) ?_
        refine step (v := vb true) (st_pickT (b := true) rfl rfl rfl) ?_
        refine q1 (vb true) ?_
        refine qX true (by decide) ?_
        refine qX true (by decide) ?_
        refine qX true (by decide) ?_
        refine qX true (by decide) ?_
        refine step (v := vb true) (st_pickT (b := true) rfl rfl rfl) ?_
        have hh := Option.some.inj hv
        subst hh
        exact nR []
       ·
        replace hv := iteF hg23 hv
        obtain ⟨r24, hr24, hv⟩ := bindE hv
        refine qG (x22.F != 1) (Bool.eq_false_iff.2 hg23) ?_
        refine q1 (.ptr 0 0 0) ?_
        refine qG (x22.F != 1) (Bool.eq_false_iff.2 hg23) ?_
        refine q1 (vl1 x18.When) ?_
        refine qG (x22.F != 1) (Bool.eq_false_iff.2 hg23) ?_
        refine stepC (r := .bool r24) (ArgsOk.dt (ArgsOk.dt ArgsOk.nil')) (c_ref05_rising hr24) ?_
        refine qG (x22.F != 1) (Bool.eq_false_iff.2 hg23) ?_
        refine q1 (vb (!r24)) ?_
        refine step (v := vb (!r24)) (st_pickF (b := (x22.F != 1)) rfl hg23 rfl) ?_
        refine q1 (vb (!r24)) ?_
        by_cases hg25 : (!r24) = true
        ·
         replace hv := iteT hg25 hv
         refine qX (!r24) (by rw [hg25]; decide) ?_
         refine qX (!r24) (by rw [hg25]; decide) ?_
         refine qX (!r24) (by rw [hg25]; decide) ?_
         refine qX (!r24) (by rw [hg25]; decide) ?_
         refine qX (!r24) (by rw [hg25]; decide) ?_
         refine qX (!r24) (by rw [hg25]; decide) ?_
         refine qX (!r24) (by rw [hg25]; decide) ?_
         refine step (v := vb true) (st_pickT (b := (!r24)) rfl hg25 rfl) ?_
         refine q1 (vb true) ?_
         refine qX true (by decide) ?_
         refine qX true (by decide) ?_
         refine qX true (by decide) ?_
         refine qX true (by decide) ?_
         refine qX true (by decide) ?_
         refine qX true (by decide) ?_
         refine qX true (by decide) ?_
         refine step (v := vb true) (st_pickT (b := true) rfl rfl rfl) ?_
         refine q1 (vb true) ?_
         refine qX true (by decide) ?_
         refine qX true (by decide) ?_
         refine qX true (by decide) ?_
         refine qX true (by decide) ?_
         refine step (v := vb true) (st_pickT (b := true) rfl rfl rfl) ?_
         have hh := Option.some.inj hv
         subst hh
         exact nR []
        ·
         replace hv := iteF hg25 hv
         obtain ⟨r26, hr26, hv⟩ := bindE hv
         refine qG (!r24) (Bool.eq_false_iff.2 hg25) ?_
         refine q1 (.ptr 0 0 1) ?_
         refine qG (!r24) (Bool.eq_false_iff.2 hg25) ?_
         refine q1 (vl1 x18.Guard) ?_
         refine qG (!r24) (Bool.eq_false_iff.2 hg25) ?_
         refine q1 (.d (.cptr (some 6) (eapi_Program a0) 0)) ?_
         refine qG (!r24) (Bool.eq_false_iff.2 hg25) ?_
         refine q1 (vl2 a0.Init) ?_
         refine qG (!r24) (Bool.eq_false_iff.2 hg25) ?_
         refine step (v := vi (a0.Init.length : Int)) (st_len (xs := a0.Init) (e := (D.int .u16)) rfl) ?_
         refine qG (!r24) (Bool.eq_false_iff.2 hg25) ?_
         refine stepC (r := .bool r26) (ArgsOk.dt (ArgsOk.dt ArgsOk.nil')) (c_ref05_rising hr26) ?_
         refine qG (!r24) (Bool.eq_false_iff.2 hg25) ?_
         refine q1 (vb (!r26)) ?_
         refine step (v := vb (!r26)) (st_pickF (b := (!r24)) rfl hg25 rfl) ?_
         refine q1 (vb (!r26)) ?_
         by_cases hg27 : (!r26) = true
         ·
          replace hv := iteT hg27 hv
          refine qX (!r26) (by rw [hg27]; decide) ?_
          refine qX (!r26) (by rw [hg27]; decide) ?_
          refine qX (!r26) (by rw [hg27]; decide) ?_
          refine qX (!r26) (by rw [hg27]; decide) ?_
          refine qX (!r26) (by rw [hg27]; decide) ?_
          refine qX (!r26) (by rw [hg27]; decide) ?_
          refine qX (!r26) (by rw [hg27]; decide) ?_
          refine step (v := vb true) (st_pickT (b := (!r26)) rfl hg27 rfl) ?_
          refine q1 (vb true) ?_
          refine qX true (by decide) ?_
          refine qX true (by decide) ?_
          refine qX true (by decide) ?_
          refine qX true (by decide) ?_
          refine step (v := vb true) (st_pickT (b := true) rfl rfl rfl) ?_
          have hh := Option.some.inj hv
          subst hh
          exact nR []
         ·
          replace hv := iteF hg27 hv
          obtain ⟨r28, hr28, hv⟩ := bindE hv
          refine qG (!r26) (Bool.eq_false_iff.2 hg27) ?_
          refine q1 (.ptr 0 0 2) ?_
          refine qG (!r26) (Bool.eq_false_iff.2 hg27) ?_
          refine q1 (vl1 x18.Then) ?_
          refine qG (!r26) (Bool.eq_false_iff.2 hg27) ?_
          refine q1 (.d (.cptr (some 6) (eapi_Program a0) 0)) ?_
          refine qG (!r26) (Bool.eq_false_iff.2 hg27) ?_
          refine q1 (vl2 a0.Init) ?_
          refine qG (!r26) (Bool.eq_false_iff.2 hg27) ?_
          refine step (v := vi (a0.Init.length : Int)) (st_len (xs := a0.Init) (e := (D.int .u16)) rfl) ?_
          refine qG (!r26) (Bool.eq_false_iff.2 hg27) ?_
          refine stepC (r := .bool r28) (ArgsOk.dt (ArgsOk.dt ArgsOk.nil')) (c_ref05_rising hr28) ?_
          refine qG (!r26) (Bool.eq_false_iff.2 hg27) ?_
          refine q1 (vb (!r28)) ?_
          refine step (v := vb (!r28)) (st_pickF (b := (!r26)) rfl hg27 rfl) ?_
          refine q1 (vb (!r28)) ?_
          by_cases hg29 : (!r28) = true
          ·
           replace hv := iteT hg29 hv
           refine qX (!r28) (by rw [hg29]; decide) ?_
           refine qX (!r28) (by rw [hg29]; decide) ?_
           refine qX (!r28) (by rw [hg29]; decide) ?_
           refine qX (!r28) (by rw [hg29]; decide) ?_
           refine step (v := vb true) (st_pickT (b := (!r28)) rfl hg29 rfl) ?_
           have hh := Option.some.inj hv
           subst hh
           exact nR []
          ·
           replace hv := iteF hg29 hv
           refine qG (!r28) (Bool.eq_false_iff.2 hg29) ?_
           refine q1 (.ptr 0 0 2) ?_
           refine qG (!r28) (Bool.eq_false_iff.2 hg29) ?_
           refine q1 (vl1 x18.Then) ?_
           refine qG (!r28) (Bool.eq_false_iff.2 hg29) ?_
           refine step (v := vi (x18.Then.length : Int)) (st_len (xs := x18.Then) (e := eapi_Pair) rfl) ?_
           refine qG (!r28) (Bool.eq_false_iff.2 hg29) ?_
           refine q1 (vb ((x18.Then.length : Int) == 0)) ?_
           refine step (v := vb ((x18.Then.length : Int) == 0)) (st_pickF (b := (!r28)) rfl hg29 rfl) ?_
           have hh := Option.some.inj hv
           subst hh
           exact nR []
    by_cases hc32 : y30 = true
    ·
     replace h := iteT hc32 h
     refine NWp.condT (t := y30) rfl hc32 ?_
     refine NWp.opsJ ⟨tab [(2, vi 11)], stab [], 0⟩ ?_ ?_
     ·
      refine q1 (vi 11) ?_
      exact nR []
     obtain ⟨r33, kr33, hr⟩ := mapE (o := some 11) (g := Br.ret) h
     subst hr
     have h := kr33
     have hh := Option.some.inj h
     subst hh
     refine NWp.ret ?_
     refine And.intro (fun hn => nomatch hn) ?_
     intro hq
     have hq := hq.symm
     subst hq
     show FQ _ _ _ _
     exact FQ.mk1 (.inr rfl) (res_t (v := vi 11) rfl rfl) (RV.d trivial)
    ·
     replace h := iteF hc32 h
     refine NWp.condF (t := y30) rfl hc32 ?_
     refine NWp.skip ?_
     have hh := Option.some.inj h
     subst hh
     refine NWp.opsE ⟨tab [(1, .d (.cptr (some 6) (eapi_Program a0) 0)), (3, vi (i12 + 1))], stab [], 0⟩ ?_ ?_
     ·
      refine q1 (vi i12) ?_
      refine step (v := vi (i12 + 1)) (st_inc (inc_ok hinv15 hgo14 hB13) rfl rfl) ?_
      refine q1 (vi (i12 + 1)) ?_
      exact nR []
     exact And.intro rfl rfl
   ·
    rintro i12 ⟨⟩ hinv15 hgo14
    show NWp _ _ _ _ _ ⟨tab [(1, .d (.cptr (some 6) (eapi_Program a0) 0)), (3, vi i12)], stab [], 0⟩
    have hc16 : ¬ (decide (i12 < (a0.Rules.length : Int)) = true) := fun hq => hgo14 (of_decide_eq_true hq)
    refine NWp.seq ?_
    refine NWp.opsJ ⟨tab [(1, .d (.cptr (some 6) (eapi_Program a0) 0)), (3, vi i12), (44, vb (decide (i12 < (a0.Rules.length : Int))))], stab [], 0⟩ ?_ ?_
    ·
     refine q1 (vi i12) ?_
     refine q1 (.d (.cptr (some 6) (eapi_Program a0) 5)) ?_
     refine q1 (vl4 a0.Rules) ?_
     refine step (v := vi (a0.Rules.length : Int)) (st_len (xs := a0.Rules) (e := eapi_Rule) rfl) ?_
     refine q1 (vb (decide (i12 < (a0.Rules.length : Int)))) ?_
     exact nR []
    refine NWp.condF (t := decide (i12 < (a0.Rules.length : Int))) rfl hc16 ?_
    refine NWp.norm (s0 := ⟨tab [], stab [], 0⟩) (nr []) ?_
    refine NWp.exit ?_
    exact And.intro rfl rfl
   ·
    intro r' hq
    subst hq
    exact Option.some.inj h
   rintro ⟨⟩ rfl
   refine NWp.opsJ ⟨tab [(2, vi 0)], stab [], 0⟩ ?_ ?_
   ·
    refine q1 (vi 0) ?_
    exact nR []
   have hh := Option.some.inj h
   subst hh
   refine NWp.ret ?_
   show FQ _ _ _ _
   exact FQ.mk1 (.inr rfl) (res_t (v := vi 0) rfl rfl) (RV.d trivial)

theorem c_ref07_Right {a0 : api_Pol} {r : Bool} (h : ref07_Right a0 = some r) : PCall Try.prog 40 [uapi_Pol a0] (.bool r) := by
 refine PCall.introN ok40 (show 1 ≤ 8 by decide) ?_
 refine NWp.norm (s0 := ⟨tab [(0, .d (uapi_Pol a0))], stab [], 0⟩) (nr []) ?_
 refine NWp.opsJ ⟨tab [(1, .d (.cptr (some 4) (uapi_Pol a0) 0))], stab [], 0⟩ ?_ ?_
 ·
  refine q1 (.d (.cptr (some 4) (uapi_Pol a0) 0)) ?_
  refine q1 (vb false) ?_
  exact nR []
 obtain ⟨l1, hl1, h⟩ := bindE h
 obtain ⟨r2, hr2, h⟩ := bindE h
 refine NWp.opsJ ⟨tab [(2, vb (r2 == 0))], stab [], 0⟩ ?_ ?_
 ·
  refine step (v := .loc 0 0 l1.length) (σ' := (upd (stab []) 0 (some (.lst false none (List.map (D.int .u16) l1))))) (n' := 1) (st_mkF (e := (D.int .u16)) (z := 0) hl1 rfl rfl (gmk_le hl1)) ?_
  refine q1 (.d (uapi_Pol a0)) ?_
  refine q1 (.agg [.loc 0 0 l1.length, vi a0.Op, vi a0.F, .d (.int .u16 a0.N), vl0 a0.Kids, vl4 []]) ?_
  refine stepC (r := .int .i64 r2) (ArgsOk.vw (va_agg (optC (vc_l (xs := l1) (e := (D.int .u16)) rfl rfl) (optC vc_d (optC vc_d (optC vc_d (optC vc_d (optC vc_d optN))))))) (Sub.aggs (by exact ⟨.refl _, .refl _, .refl _, .refl _, .refl _, .refl _, trivial⟩)) ArgsOk.nil') (c_ref05_Check hr2) ?_
  refine q1 (vb (r2 == 0)) ?_
  refine q1 (vb (r2 == 0)) ?_
  exact nR []
 have hh := Option.some.inj h
 subst hh
 refine NWp.ret ?_
 show FQ _ _ _ _
 exact FQ.mk1 (.inr rfl) (res_t (v := vb (r2 == 0)) rfl rfl) (RV.d trivial)

theorem c_ref01_With {a0 : (A8 Int)} {a1 : Int} {a2 : Int} {r : (A8 Int)} (h : ref01_With a0 a1 a2 = some r) : PCall Try.prog 90 [eA8 (D.int .u16) a0, .int .i64 a1, .int .u16 a2] (eA8 (D.int .u16) r) := by
 refine PCall.introN ok90 (show 3 ≤ 17 by decide) ?_
 refine NWp.norm (s0 := ⟨tab [(0, .d (eA8 (D.int .u16) a0)), (1, vi a1), (2, .d (.int .u16 a2))], stab [], 0⟩) (nr []) ?_
 refine NWp.opsJ ⟨tab [(1, vi a1), (2, .d (.int .u16 a2)), (3, .ptr 0 0 0), (6, .ptr 1 0 0)], stab [(0, .var [.d (.int .u16 a0.a0), .d (.int .u16 a0.a1), .d (.int .u16 a0.a2), .d (.int .u16 a0.a3), .d (.int .u16 a0.a4), .d (.int .u16 a0.a5), .d (.int .u16 a0.a6), .d (.int .u16 a0.a7)]), (1, .var [.d (.int .u16 0), .d (.int .u16 0), .d (.int .u16 0), .d (.int .u16 0), .d (.int .u16 0), .d (.int .u16 0), .d (.int .u16 0), .d (.int .u16 0)])], 2⟩ ?_ ?_
 ·
  refine step (v := .ptr 0 0 0) (σ' := (upd (stab []) 0 (some (.var [.d (.int .u16 a0.a0), .d (.int .u16 a0.a1), .d (.int .u16 a0.a2), .d (.int .u16 a0.a3), .d (.int .u16 a0.a4), .d (.int .u16 a0.a5), .d (.int .u16 a0.a6), .d (.int .u16 a0.a7)])))) (n' := 1) rfl ?_
  refine step (v := .ptr 1 0 0) (σ' := (upd (upd (stab []) 0 (some (.var [.d (.int .u16 a0.a0), .d (.int .u16 a0.a1), .d (.int .u16 a0.a2), .d (.int .u16 a0.a3), .d (.int .u16 a0.a4), .d (.int .u16 a0.a5), .d (.int .u16 a0.a6), .d (.int .u16 a0.a7)]))) 1 (some (.var [.d (.int .u16 0), .d (.int .u16 0), .d (.int .u16 0), .d (.int .u16 0), .d (.int .u16 0), .d (.int .u16 0), .d (.int .u16 0), .d (.int .u16 0)])))) (n' := 2) rfl ?_
  exact nR [0, 1]
 obtain ⟨y5, hv, h⟩ := bindE h
 refine NWp.seqN ⟨tab [(3, .ptr 0 0 0), (6, .ptr 1 0 0)], stab [(0, .var [.d (.int .u16 y5.a0), .d (.int .u16 y5.a1), .d (.int .u16 y5.a2), .d (.int .u16 y5.a3), .d (.int .u16 y5.a4), .d (.int .u16 y5.a5), .d (.int .u16 y5.a6), .d (.int .u16 y5.a7)]), (1, .var [.d (.int .u16 0), .d (.int .u16 0), .d (.int .u16 0), .d (.int .u16 0), .d (.int .u16 0), .d (.int .u16 0), .d (.int .u16 0), .d (.int .u16 0)])], 2⟩ ?_ ?_
 ·
  replace h := hv
  refine NWp.opsJ ⟨tab [(1, vi a1), (2, .d (.int .u16 a2)), (3, .ptr 0 0 0), (6, .ptr 1 0 0), (12, vb ((decide (a1 ≥ 0)) && (decide (a1 < 8))))], stab [(0, .var [.d (.int .u16 a0.a0), .d (.int .u16 a0.a1), .d (.int .u16 a0.a2), .d (.int .u16 a0.a3), .d (.int .u16 a0.a4), .d (.int .u16 a0.a5), .d (.int .u16 a0.a6), .d (.int .u16 a0.a7)]), (1, .var [.d (.int .u16 0), .d (.int .u16 0), .d (.int .u16 0), .d (.int .u16 0), .d (.int .u16 0), .d (.int .u16 0), .d (.int .u16 0), .d (.int .u16 0)])], 2⟩ ?_ ?_
  ·
   refine q1 (vi a1) ?_
   refine q1 (vb (decide (a1 ≥ 0))) ?_
   refine q1 (vb (decide (a1 ≥ 0))) ?_
   by_cases hg1 : decide (a1 ≥ 0) = true
   ·
    refine qG (decide (a1 ≥ 0)) hg1 ?_
    refine q1 (vi a1) ?_
    refine qG (decide (a1 ≥ 0)) hg1 ?_
    refine q1 (vb (decide (a1 < 8))) ?_
    refine step (v := vb (decide (a1 < 8))) (st_pickT (b := decide (a1 ≥ 0)) rfl hg1 rfl) ?_
    exact RunOps.nil' (nm [0, 1] ⟨.d _, .d _, .pt 0, .pt 1, .eq (by first | (simp [hg1]; done) | (simp_all; done) | grind), trivial⟩ ⟨⟨show 0 < 2 by decide, _, rfl, .vars ⟨.d _, .d _, .d _, .d _, .d _, .d _, .d _, .d _, trivial⟩⟩, ⟨show 1 < 2 by decide, _, rfl, .vars ⟨.d _, .d _, .d _, .d _, .d _, .d _, .d _, .d _, trivial⟩⟩, trivial⟩)
   ·
    refine qX (decide (a1 ≥ 0)) hg1 ?_
    refine qX (decide (a1 ≥ 0)) hg1 ?_
    refine step (v := vb false) (st_pickF (b := decide (a1 ≥ 0)) rfl hg1 rfl) ?_
    exact RunOps.nil' (nm [0, 1] ⟨.d _, .d _, .pt 0, .pt 1, .eq (by first | (simp [hg1]; done) | (simp_all; done) | grind), trivial⟩ ⟨⟨show 0 < 2 by decide, _, rfl, .vars ⟨.d _, .d _, .d _, .d _, .d _, .d _, .d _, .d _, trivial⟩⟩, ⟨show 1 < 2 by decide, _, rfl, .vars ⟨.d _, .d _, .d _, .d _, .d _, .d _, .d _, .d _, trivial⟩⟩, trivial⟩)
  by_cases hc2 : ((decide (a1 ≥ 0)) && (decide (a1 < 8))) = true
  ·
   replace h := iteT hc2 h
   refine NWp.condT (t := ((decide (a1 ≥ 0)) && (decide (a1 < 8)))) rfl hc2 ?_
   obtain ⟨x3, hx3, h⟩ := bindE h
   obtain ⟨x4, hx4, h⟩ := bindE h
   have hh := Option.some.inj h
   subst hh
   refine NWp.opsE ⟨tab [(3, .ptr 0 0 0), (6, .ptr 1 0 0)], stab [(0, .var [.d (.int .u16 x4.a0), .d (.int .u16 x4.a1), .d (.int .u16 x4.a2), .d (.int .u16 x4.a3), .d (.int .u16 x4.a4), .d (.int .u16 x4.a5), .d (.int .u16 x4.a6), .d (.int .u16 x4.a7)]), (1, .var [.d (.int .u16 0), .d (.int .u16 0), .d (.int .u16 0), .d (.int .u16 0), .d (.int .u16 0), .d (.int .u16 0), .d (.int .u16 0), .d (.int .u16 0)])], 2⟩ ?_ ?_
   ·
    refine q1 (vi a1) ?_
    refine q1 (.d (.int .u16 a2)) ?_
    refine step (v := .ptr 0 0 (0 + a1.toNat * 1)) (st_iaddrAP (xs := a0.l) hx3 rfl rfl rfl) ?_
    refine step (v := V.undef) (σ' := (upd (stab [(0, .var [.d (.int .u16 a0.a0), .d (.int .u16 a0.a1), .d (.int .u16 a0.a2), .d (.int .u16 a0.a3), .d (.int .u16 a0.a4), .d (.int .u16 a0.a5), .d (.int .u16 a0.a6), .d (.int .u16 a0.a7)]), (1, .var [.d (.int .u16 0), .d (.int .u16 0), .d (.int .u16 0), .d (.int .u16 0), .d (.int .u16 0), .d (.int .u16 0), .d (.int .u16 0), .d (.int .u16 0)])]) 0 (some (.var [.d (.int .u16 x4.a0), .d (.int .u16 x4.a1), .d (.int .u16 x4.a2), .d (.int .u16 x4.a3), .d (.int .u16 x4.a4), .d (.int .u16 x4.a5), .d (.int .u16 x4.a6), .d (.int .u16 x4.a7)])))) (n' := 2) (st_storeA (e := (D.int .u16)) (xs := a0.l) (xs' := x4.l) (pre := []) (post := []) (A8.put_l hx4) rfl rfl rfl rfl rfl rfl) ?_
    exact nR [0, 1]
   exact And.intro rfl rfl
  ·
   replace h := iteF hc2 h
   refine NWp.condF (t := ((decide (a1 ≥ 0)) && (decide (a1 < 8)))) rfl hc2 ?_
   have hh := Option.some.inj h
   subst hh
   refine NWp.norm (s0 := ⟨tab [(3, .ptr 0 0 0), (6, .ptr 1 0 0)], stab [(0, .var [.d (.int .u16 a0.a0), .d (.int .u16 a0.a1), .d (.int .u16 a0.a2), .d (.int .u16 a0.a3), .d (.int .u16 a0.a4), .d (.int .u16 a0.a5), .d (.int .u16 a0.a6), .d (.int .u16 a0.a7)]), (1, .var [.d (.int .u16 0), .d (.int .u16 0), .d (.int .u16 0), .d (.int .u16 0), .d (.int .u16 0), .d (.int .u16 0), .d (.int .u16 0), .d (.int .u16 0)])], 2⟩) (nr [0, 1]) ?_
   refine NWp.skip ?_
   exact And.intro rfl rfl
 refine NWp.opsJ ⟨tab [(6, .ptr 0 0 0)], stab [(0, .var [.d (.int .u16 y5.a0), .d (.int .u16 y5.a1), .d (.int .u16 y5.a2), .d (.int .u16 y5.a3), .d (.int .u16 y5.a4), .d (.int .u16 y5.a5), .d (.int .u16 y5.a6), .d (.int .u16 y5.a7)])], 1⟩ ?_ ?_
 ·
  refine step (v := .d (eA8 (D.int .u16) y5)) (st_ldV (ds := [.int .u16 y5.a0, .int .u16 y5.a1, .int .u16 y5.a2, .int .u16 y5.a3, .int .u16 y5.a4, .int .u16 y5.a5, .int .u16 y5.a6, .int .u16 y5.a7]) rfl rfl (show 8 ≤ 8 by decide) rfl) ?_
  refine step (v := V.undef) (σ' := (upd (stab [(0, .var [.d (.int .u16 y5.a0), .d (.int .u16 y5.a1), .d (.int .u16 y5.a2), .d (.int .u16 y5.a3), .d (.int .u16 y5.a4), .d (.int .u16 y5.a5), .d (.int .u16 y5.a6), .d (.int .u16 y5.a7)]), (1, .var [.d (.int .u16 0), .d (.int .u16 0), .d (.int .u16 0), .d (.int .u16 0), .d (.int .u16 0), .d (.int .u16 0), .d (.int .u16 0), .d (.int .u16 0)])]) 1 (some (.var [.d (.int .u16 y5.a0), .d (.int .u16 y5.a1), .d (.int .u16 y5.a2), .d (.int .u16 y5.a3), .d (.int .u16 y5.a4), .d (.int .u16 y5.a5), .d (.int .u16 y5.a6), .d (.int .u16 y5.a7)])))) (n' := 2) rfl ?_
  exact nR [1]
 have hh := Option.some.inj h
 subst hh
 refine NWp.ret ?_
 show FQ _ _ _ _
 exact FQ.mk1 (.inr rfl) (res_cell (ds := [.int .u16 y5.a0, .int .u16 y5.a1, .int .u16 y5.a2, .int .u16 y5.a3, .int .u16 y5.a4, .int .u16 y5.a5, .int .u16 y5.a6, .int .u16 y5.a7]) rfl rfl (show 8 ≤ 8 by decide) rfl rfl) (RV.d trivial)

theorem c_ref01_Compare {a0 : (A8 Int)} {a1 : (A8 Int)} {r : Int} (h : ref01_Compare a0 a1 = some r) : PCall Try.prog 114 [eA8 (D.int .u16) a0, eA8 (D.int .u16) a1] (.int .i64 r) := by
 refine PCall.introN ok114 (show 2 ≤ 24 by decide) ?_
 refine NWp.norm (s0 := ⟨tab [(0, .d (eA8 (D.int .u16) a0)), (1, .d (eA8 (D.int .u16) a1))], stab [], 0⟩) (nr []) ?_
 refine NWp.opsJ ⟨tab [(2, .d (.cptr (some 8) (eA8 (D.int .u16) a0) 0)), (3, .d (.cptr (some 8) (eA8 (D.int .u16) a1) 0))], stab [], 0⟩ ?_ ?_
 ·
  refine q1 (.d (.cptr (some 8) (eA8 (D.int .u16) a0) 0)) ?_
  refine q1 (.d (.cptr (some 8) (eA8 (D.int .u16) a1) 0)) ?_
  refine q1 (vi 0) ?_
  exact nR []
 refine NWp.seq ?_
 refine NWp.opsJ ⟨tab [(2, .d (.cptr (some 8) (eA8 (D.int .u16) a0) 0)), (3, .d (.cptr (some 8) (eA8 (D.int .u16) a1) 0)), (5, vi 0)], stab [], 0⟩ ?_ ?_
 ·
  refine q1 (vi 0) ?_
  exact nR []
 obtain ⟨q11, hl, h⟩ := bindE h
 refine NWp.block ?_
 refine loop_forR (cntU 8) (fun (i1 : Int) (qq : Unit) => ⟨tab [(2, .d (.cptr (some 8) (eA8 (D.int .u16) a0) 0)), (3, .d (.cptr (some 8) (eA8 (D.int .u16) a1) 0)), (5, vi i1)], stab [], 0⟩) 0 (fun (qq : Unit) => ⟨tab [], stab [], 0⟩) Low low_step (r := r) hl (by unfold Low; omega) ?_ ?_ ?_ ?_
 ·
  rintro i1 ⟨⟩ xr6 hinv4 hgo3 h
  show NWp _ _ _ _ _ ⟨tab [(2, .d (.cptr (some 8) (eA8 (D.int .u16) a0) 0)), (3, .d (.cptr (some 8) (eA8 (D.int .u16) a1) 0)), (5, vi i1)], stab [], 0⟩
  have hc5 : decide (i1 < 8) = true := decide_eq_true hgo3
  refine NWp.seq ?_
  refine NWp.opsJ ⟨tab [(2, .d (.cptr (some 8) (eA8 (D.int .u16) a0) 0)), (3, .d (.cptr (some 8) (eA8 (D.int .u16) a1) 0)), (5, vi i1), (7, vb (decide (i1 < 8)))], stab [], 0⟩ ?_ ?_
  ·
   refine q1 (vi i1) ?_
   refine q1 (vb (decide (i1 < 8))) ?_
   exact nR []
  refine NWp.condT (t := decide (i1 < 8)) rfl hc5 ?_
  refine NWp.skip ?_
  refine NWp.seq ?_
  refine NWp.block ?_
  refine NWp.seq ?_
  obtain ⟨x7, hx7, h⟩ := bindE h
  obtain ⟨x8, hx8, h⟩ := bindE h
  refine NWp.opsJ ⟨tab [(2, .d (.cptr (some 8) (eA8 (D.int .u16) a0) 0)), (3, .d (.cptr (some 8) (eA8 (D.int .u16) a1) 0)), (5, vi i1), (16, vb (decide (x7 < x8)))], stab [], 0⟩ ?_ ?_
  ·
   refine q1 (vi i1) ?_
   refine step (v := .d (.cptr (some 8) (eA8 (D.int .u16) a0) (0 + i1.toNat * 1))) (st_iaddrAC (xs := a0.l) hx7 rfl rfl rfl) ?_
   refine step (v := .d (.int .u16 x7)) (st_ldIC rfl (ld_arr (e := (D.int .u16)) (xs := a0.l) (pre := []) (post := []) hx7 rfl (by decide))) ?_
   refine q1 (vi i1) ?_
   refine step (v := .d (.cptr (some 8) (eA8 (D.int .u16) a1) (0 + i1.toNat * 1))) (st_iaddrAC (xs := a1.l) hx8 rfl rfl rfl) ?_
   refine step (v := .d (.int .u16 x8)) (st_ldIC rfl (ld_arr (e := (D.int .u16)) (xs := a1.l) (pre := []) (post := []) hx8 rfl (by decide))) ?_
   refine q1 (vb (decide (x7 < x8))) ?_
   exact nR []
  by_cases hc9 : decide (x7 < x8) = true
  ·
   replace h := iteT hc9 h
   refine NWp.condT (t := decide (x7 < x8)) rfl hc9 ?_
   refine NWp.opsJ ⟨tab [(4, vi (-1))], stab [], 0⟩ ?_ ?_
   ·
    refine q1 (vi (-1)) ?_
    exact nR []
   obtain ⟨r10, kr10, hr⟩ := mapE (o := some (-1)) (g := Br.ret) h
   subst hr
   have h := kr10
   have hh := Option.some.inj h
   subst hh
   refine NWp.ret ?_
   refine And.intro (fun hn => nomatch hn) ?_
   intro hq
   have hq := hq.symm
   subst hq
   show FQ _ _ _ _
   exact FQ.mk1 (.inr rfl) (res_t (v := vi (-1)) rfl rfl) (RV.d trivial)
  ·
   replace h := iteF hc9 h
   refine NWp.condF (t := decide (x7 < x8)) rfl hc9 ?_
   refine NWp.skip ?_
   refine NWp.opsJ ⟨tab [(2, .d (.cptr (some 8) (eA8 (D.int .u16) a0) 0)), (3, .d (.cptr (some 8) (eA8 (D.int .u16) a1) 0)), (5, vi i1), (23, vb (decide (x7 > x8)))], stab [], 0⟩ ?_ ?_
   ·
    refine q1 (vi i1) ?_
    refine step (v := .d (.cptr (some 8) (eA8 (D.int .u16) a0) (0 + i1.toNat * 1))) (st_iaddrAC (xs := a0.l) hx7 rfl rfl rfl) ?_
    refine step (v := .d (.int .u16 x7)) (st_ldIC rfl (ld_arr (e := (D.int .u16)) (xs := a0.l) (pre := []) (post := []) hx7 rfl (by decide))) ?_
    refine q1 (vi i1) ?_
    refine step (v := .d (.cptr (some 8) (eA8 (D.int .u16) a1) (0 + i1.toNat * 1))) (st_iaddrAC (xs := a1.l) hx8 rfl rfl rfl) ?_
    refine step (v := .d (.int .u16 x8)) (st_ldIC rfl (ld_arr (e := (D.int .u16)) (xs := a1.l) (pre := []) (post := []) hx8 rfl (by decide))) ?_
    refine q1 (vb (decide (x7 > x8))) ?_
    exact nR []
   by_cases hc10 : decide (x7 > x8) = true
   ·
    replace h := iteT hc10 h
    refine NWp.condT (t := decide (x7 > x8)) rfl hc10 ?_
    refine NWp.opsJ ⟨tab [(4, vi 1)], stab [], 0⟩ ?_ ?_
    ·
     refine q1 (vi 1) ?_
     exact nR []
    obtain ⟨r11, kr11, hr⟩ := mapE (o := some 1) (g := Br.ret) h
    subst hr
    have h := kr11
    have hh := Option.some.inj h
    subst hh
    refine NWp.ret ?_
    refine And.intro (fun hn => nomatch hn) ?_
    intro hq
    have hq := hq.symm
    subst hq
    show FQ _ _ _ _
    exact FQ.mk1 (.inr rfl) (res_t (v := vi 1) rfl rfl) (RV.d trivial)
   ·
    replace h := iteF hc10 h
    refine NWp.condF (t := decide (x7 > x8)) rfl hc10 ?_
    refine NWp.skip ?_
    have hh := Option.some.inj h
    subst hh
    refine NWp.opsE ⟨tab [(2, .d (.cptr (some 8) (eA8 (D.int .u16) a0) 0)), (3, .d (.cptr (some 8) (eA8 (D.int .u16) a1) 0)), (5, vi (i1 + 1))], stab [], 0⟩ ?_ ?_
    ·
     refine q1 (vi i1) ?_
     refine step (v := vi (i1 + 1)) (st_inc (inc_ok hinv4 hgo3 (by decide)) rfl rfl) ?_
     refine q1 (vi (i1 + 1)) ?_
     exact nR []
    exact And.intro rfl rfl
 ·
  rintro i1 ⟨⟩ hinv4 hgo3
  show NWp _ _ _ _ _ ⟨tab [(2, .d (.cptr (some 8) (eA8 (D.int .u16) a0) 0)), (3, .d (.cptr (some 8) (eA8 (D.int .u16) a1) 0)), (5, vi i1)], stab [], 0⟩
  have hc5 : ¬ (decide (i1 < 8) = true) := fun hq => hgo3 (of_decide_eq_true hq)
  refine NWp.seq ?_
  refine NWp.opsJ ⟨tab [(2, .d (.cptr (some 8) (eA8 (D.int .u16) a0) 0)), (3, .d (.cptr (some 8) (eA8 (D.int .u16) a1) 0)), (5, vi i1), (7, vb (decide (i1 < 8)))], stab [], 0⟩ ?_ ?_
  ·
   refine q1 (vi i1) ?_
   refine q1 (vb (decide (i1 < 8))) ?_
   exact nR []
  refine NWp.condF (t := decide (i1 < 8)) rfl hc5 ?_
  refine NWp.norm (s0 := ⟨tab [], stab [], 0⟩) (nr []) ?_
  refine NWp.exit ?_
  exact And.intro rfl rfl
 ·
  intro r' hq
  subst hq
  exact Option.some.inj h
 rintro ⟨⟩ rfl
 refine NWp.opsJ ⟨tab [(4, vi 0)], stab [], 0⟩ ?_ ?_
 ·
  refine q1 (vi 0) ?_
  exact nR []
 have hh := Option.some.inj h
 subst hh
 refine NWp.ret ?_
 show FQ _ _ _ _
 exact FQ.mk1 (.inr rfl) (res_t (v := vi 0) rfl rfl) (RV.d trivial)

theorem c_ref01_Add {a0 : (List (A8 Int))} {a1 : (A8 Int)} {r : (List (A8 Int))} (h : ref01_Add a0 a1 = some r) : PCall Try.prog 100 [eL (some 8) (eA8 (D.int .u16)) a0, eA8 (D.int .u16) a1] (eL (some 8) (eA8 (D.int .u16)) r) := by
 refine PCall.introN ok100 (show 2 ≤ 47 by decide) ?_
 refine NWp.norm (s0 := ⟨tab [(0, .d (eL (some 8) (eA8 (D.int .u16)) a0)), (1, .d (eA8 (D.int .u16) a1))], stab [], 0⟩) (nr []) ?_
 refine NWp.opsJ ⟨tab [(0, .d (eL (some 8) (eA8 (D.int .u16)) a0)), (3, .d (.cptr (some 8) (eA8 (D.int .u16) a1) 0))], stab [], 0⟩ ?_ ?_
 ·
  refine q1 (.d (.cptr (some 8) (eA8 (D.int .u16) a1) 0)) ?_
  refine q1 (.d (eL (some 8) (eA8 (D.int .u16)) ([] : List (A8 Int)))) ?_
  exact nR []
 refine NWp.opsJ ⟨tab [(0, .d (eL (some 8) (eA8 (D.int .u16)) a0)), (3, .d (.cptr (some 8) (eA8 (D.int .u16) a1) 0)), (5, .d (.nils))], stab [], 0⟩ ?_ ?_
 ·
  refine q1 (.d (.nils)) ?_
  exact nR []
 refine NWp.opsJ ⟨tab [(0, .d (eL (some 8) (eA8 (D.int .u16)) a0)), (3, .d (.cptr (some 8) (eA8 (D.int .u16) a1) 0)), (5, .d (.nils)), (6, vb false)], stab [], 0⟩ ?_ ?_
 ·
  refine q1 (vb false) ?_
  exact nR []
 refine NWp.seq ?_
 refine NWp.opsJ ⟨tab [(0, .d (eL (some 8) (eA8 (D.int .u16)) a0)), (3, .d (.cptr (some 8) (eA8 (D.int .u16) a1) 0)), (5, .d (.nils)), (6, vb false), (7, vi 0)], stab [], 0⟩ ?_ ?_
 ·
  refine q1 (vi 0) ?_
  exact nR []
 obtain ⟨q28, hl, h⟩ := bindE h
 obtain ⟨z22, z23⟩ := q28
 refine NWp.norm (s0 := ⟨tab [(0, .d (eL (some 8) (eA8 (D.int .u16)) a0)), (3, .d (.cptr (some 8) (eA8 (D.int .u16) a1) 0)), (5, .loc 0 0 (([] : List (A8 Int)).length)), (6, vb false), (7, vi 0)], stab [(0, .lst false (some 8) (List.map (eA8 (D.int .u16)) ([] : List (A8 Int))))], 1⟩) (Norm.trans (s2 := ⟨tab [(0, .d (eL (some 8) (eA8 (D.int .u16)) a0)), (3, .d (.cptr (some 8) (eA8 (D.int .u16) a1) 0)), (5, .loc 0 0 (([] : List (A8 Int)).length)), (6, vb false), (7, vi 0)], stab [(0, .lst false (some 8) (List.map (eA8 (D.int .u16)) ([] : List (A8 Int))))], 1⟩) (Norm.nil1 5 false (some 8) rfl) (nr [0])) ?_
 refine NWp.block ?_
 refine loop_forO (cntU (a0.length : Int)) (fun (i3 : Int) (qq : ((List (A8 Int)) × Bool)) => ⟨tab [(0, .d (eL (some 8) (eA8 (D.int .u16)) a0)), (3, .d (.cptr (some 8) (eA8 (D.int .u16) a1) 0)), (5, .loc 0 0 qq.1.length), (6, vb qq.2), (7, vi i3)], stab [(0, .lst false (some 8) (List.map (eA8 (D.int .u16)) qq.1))], 1⟩) 0 (fun (qq : ((List (A8 Int)) × Bool)) => ⟨tab [(3, .d (.cptr (some 8) (eA8 (D.int .u16) a1) 0)), (5, .loc 0 0 qq.1.length), (6, vb qq.2)], stab [(0, .lst false (some 8) (List.map (eA8 (D.int .u16)) qq.1))], 1⟩) Low low_step hl (by unfold Low; omega) ?_ ?_ ?_
 ·
  rintro i3 ⟨l1, y2⟩ xr8 hinv6 hgo5 h
  show NWp _ _ _ _ _ ⟨tab [(0, .d (eL (some 8) (eA8 (D.int .u16)) a0)), (3, .d (.cptr (some 8) (eA8 (D.int .u16) a1) 0)), (5, .loc 0 0 l1.length), (6, vb y2), (7, vi i3)], stab [(0, .lst false (some 8) (List.map (eA8 (D.int .u16)) l1))], 1⟩
  have hc7 : decide (i3 < (a0.length : Int)) = true := decide_eq_true hgo5
  refine NWp.seq ?_
  refine NWp.opsJ ⟨tab [(0, .d (eL (some 8) (eA8 (D.int .u16)) a0)), (3, .d (.cptr (some 8) (eA8 (D.int .u16) a1) 0)), (5, .loc 0 0 l1.length), (6, vb y2), (7, vi i3), (11, vi (a0.length : Int)), (12, vb (decide (i3 < (a0.length : Int))))], stab [(0, .lst false (some 8) (List.map (eA8 (D.int .u16)) l1))], 1⟩ ?_ ?_
  ·
   refine q1 (vi i3) ?_
   refine q1 (.d (eL (some 8) (eA8 (D.int .u16)) a0)) ?_
   refine step (v := vi (a0.length : Int)) (st_len (xs := a0) (e := (eA8 (D.int .u16))) rfl) ?_
   refine q1 (vb (decide (i3 < (a0.length : Int)))) ?_
   exact nR [0]
  refine NWp.rng 11 rfl fun hB4 => ?_
  refine NWp.condT (t := decide (i3 < (a0.length : Int))) rfl hc7 ?_
  refine NWp.skip ?_
  obtain ⟨q21, hv, h⟩ := bindE h
  obtain ⟨l19, y20⟩ := q21
  refine NWp.seqN ⟨tab [(0, .d (eL (some 8) (eA8 (D.int .u16)) a0)), (3, .d (.cptr (some 8) (eA8 (D.int .u16) a1) 0)), (5, .loc 0 0 l19.length), (6, vb y20), (7, vi i3)], stab [(0, .lst false (some 8) (List.map (eA8 (D.int .u16)) l19))], 1⟩ ?_ ?_
  ·
   replace h := hv
   refine NWp.block ?_
   obtain ⟨x9, hx9, h⟩ := bindE h
   obtain ⟨r10, hr10, h⟩ := bindE h
   refine NWp.opsJ ⟨tab [(0, .d (eL (some 8) (eA8 (D.int .u16)) a0)), (3, .d (.cptr (some 8) (eA8 (D.int .u16) a1) 0)), (5, .loc 0 0 l1.length), (6, vb y2), (7, vi i3), (8, vi r10)], stab [(0, .lst false (some 8) (List.map (eA8 (D.int .u16)) l1))], 1⟩ ?_ ?_
   ·
    refine q1 (.d (eA8 (D.int .u16) a1)) ?_
    refine q1 (.d (eL (some 8) (eA8 (D.int .u16)) a0)) ?_
    refine q1 (vi i3) ?_
    refine step (v := .d (.cptr (some 8) (eA8 (D.int .u16) x9) 0)) (st_iaddr (xs := a0) (e := (eA8 (D.int .u16))) hx9 rfl rfl) ?_
    refine q1 (.d (eA8 (D.int .u16) x9)) ?_
    refine stepC (r := .int .i64 r10) (ArgsOk.dt (ArgsOk.dt ArgsOk.nil')) (c_ref01_Compare hr10) ?_
    refine q1 (vi r10) ?_
    exact nR [0]
   obtain ⟨q16, hv, h⟩ := bindE h
   obtain ⟨l14, y15⟩ := q16
   refine NWp.seqN ⟨tab [(0, .d (eL (some 8) (eA8 (D.int .u16)) a0)), (3, .d (.cptr (some 8) (eA8 (D.int .u16) a1) 0)), (5, .loc 0 0 l14.length), (6, vb y15), (7, vi i3), (8, vi r10)], stab [(0, .lst false (some 8) (List.map (eA8 (D.int .u16)) l14))], 1⟩ ?_ ?_
   ·
    replace h := hv
    refine NWp.opsJ ⟨tab [(0, .d (eL (some 8) (eA8 (D.int .u16)) a0)), (3, .d (.cptr (some 8) (eA8 (D.int .u16) a1) 0)), (5, .loc 0 0 l1.length), (6, vb y2), (7, vi i3), (8, vi r10), (26, vb ((!y2) && (decide (r10 ≤ 0))))], stab [(0, .lst false (some 8) (List.map (eA8 (D.int .u16)) l1))], 1⟩ ?_ ?_
    ·
     refine q1 (vb y2) ?_
     refine q1 (vb (!y2)) ?_
     refine q1 (vb (!y2)) ?_
     by_cases hg11 : (!y2) = true
     ·
      refine qG (!y2) hg11 ?_
      refine q1 (vi r10) ?_
      refine qG (!y2) hg11 ?_
      refine q1 (vb (decide (r10 ≤ 0))) ?_
      refine step (v := vb (decide (r10 ≤ 0))) (st_pickT (b := (!y2)) rfl hg11 rfl) ?_
      exact RunOps.nil' (nm [0] ⟨.d _, .d _, .lc 0, .d _, .d _, .d _, .eq (by first | (simp [hg11]; done) | (simp_all; done) | grind), trivial⟩ ⟨⟨show 0 < 1 by decide, _, rfl, .lst _ _ _⟩, trivial⟩)
     ·
      refine qX (!y2) hg11 ?_
      refine qX (!y2) hg11 ?_
      refine step (v := vb false) (st_pickF (b := (!y2)) rfl hg11 rfl) ?_
      exact RunOps.nil' (nm [0] ⟨.d _, .d _, .lc 0, .d _, .d _, .d _, .eq (by first | (simp [hg11]; done) | (simp_all; done) | grind), trivial⟩ ⟨⟨show 0 < 1 by decide, _, rfl, .lst _ _ _⟩, trivial⟩)
    by_cases hc12 : ((!y2) && (decide (r10 ≤ 0))) = true
    ·
     replace h := iteT hc12 h
     refine NWp.condT (t := ((!y2) && (decide (r10 ≤ 0)))) rfl hc12 ?_
     obtain ⟨l13, hl13, h⟩ := bindE h
     refine NWp.opsJ ⟨tab [(0, .d (eL (some 8) (eA8 (D.int .u16)) a0)), (3, .d (.cptr (some 8) (eA8 (D.int .u16) a1) 0)), (5, .loc 0 0 l13.length), (7, vi i3), (8, vi r10)], stab [(0, .lst false (some 8) (List.map (eA8 (D.int .u16)) l13))], 1⟩ ?_ ?_
     ·
      refine q1 (.loc 0 0 l1.length) ?_
      refine q1 (.d (eA8 (D.int .u16) a1)) ?_
      refine q1 (.d (eL (some 8) (eA8 (D.int .u16)) ([a1] : List (A8 Int)))) ?_
      refine step (v := .loc 1 0 l13.length) (σ' := (upd (upd (stab [(0, .lst false (some 8) (List.map (eA8 (D.int .u16)) l1))]) 0 none) 1 (some (.lst false (some 8) (List.map (eA8 (D.int .u16)) l13))))) (n' := 2) (st_app (xs := l1) (ys := ([a1] : List (A8 Int))) (e := (eA8 (D.int .u16))) hl13 rfl rfl rfl (src_v (xs := ([a1] : List (A8 Int))) (e := (eA8 (D.int .u16))) rfl)) ?_
      refine q1 (.loc 1 0 l13.length) ?_
      exact nR [1]
     have hh := Option.some.inj h
     obtain ⟨he0, ht0⟩ := Prod.mk.inj hh
     subst he0
     subst ht0
     refine NWp.opsE ⟨tab [(0, .d (eL (some 8) (eA8 (D.int .u16)) a0)), (3, .d (.cptr (some 8) (eA8 (D.int .u16) a1) 0)), (5, .loc 0 0 l13.length), (6, vb true), (7, vi i3), (8, vi r10)], stab [(0, .lst false (some 8) (List.map (eA8 (D.int .u16)) l13))], 1⟩ ?_ ?_
     ·
      refine q1 (vb true) ?_
      exact nR [0]
     exact And.intro rfl rfl
    ·
     replace h := iteF hc12 h
     refine NWp.condF (t := ((!y2) && (decide (r10 ≤ 0)))) rfl hc12 ?_
     have hh := Option.some.inj h
     obtain ⟨he0, ht0⟩ := Prod.mk.inj hh
     subst he0
     subst ht0
     refine NWp.norm (s0 := ⟨tab [(0, .d (eL (some 8) (eA8 (D.int .u16)) a0)), (3, .d (.cptr (some 8) (eA8 (D.int .u16) a1) 0)), (5, .loc 0 0 l1.length), (6, vb y2), (7, vi i3), (8, vi r10)], stab [(0, .lst false (some 8) (List.map (eA8 (D.int .u16)) l1))], 1⟩) (nr [0]) ?_
     refine NWp.skip ?_
     exact And.intro rfl rfl
   refine NWp.opsJ ⟨tab [(0, .d (eL (some 8) (eA8 (D.int .u16)) a0)), (3, .d (.cptr (some 8) (eA8 (D.int .u16) a1) 0)), (5, .loc 0 0 l14.length), (6, vb y15), (7, vi i3), (32, vb (r10 != 0))], stab [(0, .lst false (some 8) (List.map (eA8 (D.int .u16)) l14))], 1⟩ ?_ ?_
   ·
    refine q1 (vi r10) ?_
    refine q1 (vb (r10 != 0)) ?_
    exact nR [0]
   by_cases hc17 : (r10 != 0) = true
   ·
    replace h := iteT hc17 h
    refine NWp.condT (t := (r10 != 0)) rfl hc17 ?_
    obtain ⟨l18, hl18, h⟩ := bindE h
    have hh := Option.some.inj h
    obtain ⟨he0, ht0⟩ := Prod.mk.inj hh
    subst he0
    subst ht0
    refine NWp.opsE ⟨tab [(0, .d (eL (some 8) (eA8 (D.int .u16)) a0)), (3, .d (.cptr (some 8) (eA8 (D.int .u16) a1) 0)), (5, .loc 0 0 l18.length), (6, vb y15), (7, vi i3)], stab [(0, .lst false (some 8) (List.map (eA8 (D.int .u16)) l18))], 1⟩ ?_ ?_
    ·
     refine q1 (.loc 0 0 l14.length) ?_
     refine q1 (.d (eL (some 8) (eA8 (D.int .u16)) a0)) ?_
     refine q1 (vi i3) ?_
     refine step (v := .d (.cptr (some 8) (eA8 (D.int .u16) x9) 0)) (st_iaddr (xs := a0) (e := (eA8 (D.int .u16))) hx9 rfl rfl) ?_
     refine q1 (.d (eA8 (D.int .u16) x9)) ?_
     refine q1 (.d (eL (some 8) (eA8 (D.int .u16)) ([x9] : List (A8 Int)))) ?_
     refine step (v := .loc 1 0 l18.length) (σ' := (upd (upd (stab [(0, .lst false (some 8) (List.map (eA8 (D.int .u16)) l14))]) 0 none) 1 (some (.lst false (some 8) (List.map (eA8 (D.int .u16)) l18))))) (n' := 2) (st_app (xs := l14) (ys := ([x9] : List (A8 Int))) (e := (eA8 (D.int .u16))) hl18 rfl rfl rfl (src_v (xs := ([x9] : List (A8 Int))) (e := (eA8 (D.int .u16))) rfl)) ?_
     refine q1 (.loc 1 0 l18.length) ?_
     exact nR [1]
    exact And.intro rfl rfl
   ·
    replace h := iteF hc17 h
    refine NWp.condF (t := (r10 != 0)) rfl hc17 ?_
    have hh := Option.some.inj h
    obtain ⟨he0, ht0⟩ := Prod.mk.inj hh
    subst he0
    subst ht0
    refine NWp.norm (s0 := ⟨tab [(0, .d (eL (some 8) (eA8 (D.int .u16)) a0)), (3, .d (.cptr (some 8) (eA8 (D.int .u16) a1) 0)), (5, .loc 0 0 l14.length), (6, vb y15), (7, vi i3)], stab [(0, .lst false (some 8) (List.map (eA8 (D.int .u16)) l14))], 1⟩) (nr [0]) ?_
    refine NWp.skip ?_
    exact And.intro rfl rfl
  have hh := Option.some.inj h
  subst hh
  refine NWp.opsE ⟨tab [(0, .d (eL (some 8) (eA8 (D.int .u16)) a0)), (3, .d (.cptr (some 8) (eA8 (D.int .u16) a1) 0)), (5, .loc 0 0 l19.length), (6, vb y20), (7, vi (i3 + 1))], stab [(0, .lst false (some 8) (List.map (eA8 (D.int .u16)) l19))], 1⟩ ?_ ?_
  ·
   refine q1 (vi i3) ?_
   refine step (v := vi (i3 + 1)) (st_inc (inc_ok hinv6 hgo5 hB4) rfl rfl) ?_
   refine q1 (vi (i3 + 1)) ?_
   exact nR [0]
  exact And.intro rfl rfl
 ·
  rintro i3 ⟨l1, y2⟩ hinv6 hgo5
  show NWp _ _ _ _ _ ⟨tab [(0, .d (eL (some 8) (eA8 (D.int .u16)) a0)), (3, .d (.cptr (some 8) (eA8 (D.int .u16) a1) 0)), (5, .loc 0 0 l1.length), (6, vb y2), (7, vi i3)], stab [(0, .lst false (some 8) (List.map (eA8 (D.int .u16)) l1))], 1⟩
  have hc7 : ¬ (decide (i3 < (a0.length : Int)) = true) := fun hq => hgo5 (of_decide_eq_true hq)
  refine NWp.seq ?_
  refine NWp.opsJ ⟨tab [(0, .d (eL (some 8) (eA8 (D.int .u16)) a0)), (3, .d (.cptr (some 8) (eA8 (D.int .u16) a1) 0)), (5, .loc 0 0 l1.length), (6, vb y2), (7, vi i3), (12, vb (decide (i3 < (a0.length : Int))))], stab [(0, .lst false (some 8) (List.map (eA8 (D.int .u16)) l1))], 1⟩ ?_ ?_
  ·
   refine q1 (vi i3) ?_
   refine q1 (.d (eL (some 8) (eA8 (D.int .u16)) a0)) ?_
   refine step (v := vi (a0.length : Int)) (st_len (xs := a0) (e := (eA8 (D.int .u16))) rfl) ?_
   refine q1 (vb (decide (i3 < (a0.length : Int)))) ?_
   exact nR [0]
  refine NWp.condF (t := decide (i3 < (a0.length : Int))) rfl hc7 ?_
  refine NWp.norm (s0 := ⟨tab [(3, .d (.cptr (some 8) (eA8 (D.int .u16) a1) 0)), (5, .loc 0 0 l1.length), (6, vb y2)], stab [(0, .lst false (some 8) (List.map (eA8 (D.int .u16)) l1))], 1⟩) (nr [0]) ?_
  refine NWp.exit ?_
  exact And.intro rfl rfl
 obtain ⟨l26, hv, h⟩ := bindE h
 refine NWp.seqN ⟨tab [(5, .loc 0 0 l26.length)], stab [(0, .lst false (some 8) (List.map (eA8 (D.int .u16)) l26))], 1⟩ ?_ ?_
 ·
  replace h := hv
  refine NWp.opsJ ⟨tab [(3, .d (.cptr (some 8) (eA8 (D.int .u16) a1) 0)), (5, .loc 0 0 z22.length), (41, vb (!z23))], stab [(0, .lst false (some 8) (List.map (eA8 (D.int .u16)) z22))], 1⟩ ?_ ?_
  ·
   refine q1 (vb z23) ?_
   refine q1 (vb (!z23)) ?_
   exact nR [0]
  by_cases hc24 : (!z23) = true
  ·
   replace h := iteT hc24 h
   refine NWp.condT (t := (!z23)) rfl hc24 ?_
   obtain ⟨l25, hl25, h⟩ := bindE h
   have hh := Option.some.inj h
   subst hh
   refine NWp.opsE ⟨tab [(5, .loc 0 0 l25.length)], stab [(0, .lst false (some 8) (List.map (eA8 (D.int .u16)) l25))], 1⟩ ?_ ?_
   ·
    refine q1 (.loc 0 0 z22.length) ?_
    refine q1 (.d (eA8 (D.int .u16) a1)) ?_
    refine q1 (.d (eL (some 8) (eA8 (D.int .u16)) ([a1] : List (A8 Int)))) ?_
    refine step (v := .loc 1 0 l25.length) (σ' := (upd (upd (stab [(0, .lst false (some 8) (List.map (eA8 (D.int .u16)) z22))]) 0 none) 1 (some (.lst false (some 8) (List.map (eA8 (D.int .u16)) l25))))) (n' := 2) (st_app (xs := z22) (ys := ([a1] : List (A8 Int))) (e := (eA8 (D.int .u16))) hl25 rfl rfl rfl (src_v (xs := ([a1] : List (A8 Int))) (e := (eA8 (D.int .u16))) rfl)) ?_
    refine q1 (.loc 1 0 l25.length) ?_
    exact nR [1]
   exact And.intro rfl rfl
  ·
   replace h := iteF hc24 h
   refine NWp.condF (t := (!z23)) rfl hc24 ?_
   have hh := Option.some.inj h
   subst hh
   refine NWp.norm (s0 := ⟨tab [(5, .loc 0 0 z22.length)], stab [(0, .lst false (some 8) (List.map (eA8 (D.int .u16)) z22))], 1⟩) (nr [0]) ?_
   refine NWp.skip ?_
   exact And.intro rfl rfl
 refine NWp.opsJ ⟨tab [(4, .loc 0 0 l26.length)], stab [(0, .lst false (some 8) (List.map (eA8 (D.int .u16)) l26))], 1⟩ ?_ ?_
 ·
  refine q1 (.loc 0 0 l26.length) ?_
  refine q1 (.loc 0 0 l26.length) ?_
  exact nR [0]
 have hh := Option.some.inj h
 subst hh
 refine NWp.ret ?_
 show FQ _ _ _ _
 exact FQ.mk1 (.inr rfl) (res_t (v := .loc 0 0 l26.length) rfl rfl) (RV.loc (xs := l26) (e := (eA8 (D.int .u16))) rfl rfl trivial)

theorem c_ref07_union {a0 : (List (A8 Int))} {a1 : (List (A8 Int))} {r : (List (A8 Int))} (h : ref07_union a0 a1 = some r) : PCall Try.prog 91 [eL (some 8) (eA8 (D.int .u16)) a0, eL (some 8) (eA8 (D.int .u16)) a1] (eL (some 8) (eA8 (D.int .u16)) r) := by
 refine PCall.introN ok91 (show 2 ≤ 19 by decide) ?_
 refine NWp.norm (s0 := ⟨tab [(0, .d (eL (some 8) (eA8 (D.int .u16)) a0)), (1, .d (eL (some 8) (eA8 (D.int .u16)) a1))], stab [], 0⟩) (nr []) ?_
 refine NWp.opsJ ⟨tab [(0, .d (eL (some 8) (eA8 (D.int .u16)) a0)), (1, .d (eL (some 8) (eA8 (D.int .u16)) a1))], stab [], 0⟩ ?_ ?_
 ·
  refine q1 (.d (eL (some 8) (eA8 (D.int .u16)) ([] : List (A8 Int)))) ?_
  exact nR []
 refine NWp.seq ?_
 refine NWp.opsJ ⟨tab [(0, .d (eL (some 8) (eA8 (D.int .u16)) a0)), (1, .d (eL (some 8) (eA8 (D.int .u16)) a1)), (5, vi 0)], stab [], 0⟩ ?_ ?_
 ·
  refine q1 (vi 0) ?_
  exact nR []
 obtain ⟨z10, hl, h⟩ := bindE h
 refine NWp.block ?_
 refine loop_forO (cntU (a1.length : Int)) (fun (i2 : Int) (qq : (List (A8 Int))) => ⟨tab [(0, .d (eL (some 8) (eA8 (D.int .u16)) qq)), (1, .d (eL (some 8) (eA8 (D.int .u16)) a1)), (5, vi i2)], stab [], 0⟩) 0 (fun (qq : (List (A8 Int))) => ⟨tab [(0, .d (eL (some 8) (eA8 (D.int .u16)) qq))], stab [], 0⟩) Low low_step hl (by unfold Low; omega) ?_ ?_ ?_
 ·
  rintro i2 y1 xr7 hinv5 hgo4 h
  show NWp _ _ _ _ _ ⟨tab [(0, .d (eL (some 8) (eA8 (D.int .u16)) y1)), (1, .d (eL (some 8) (eA8 (D.int .u16)) a1)), (5, vi i2)], stab [], 0⟩
  have hc6 : decide (i2 < (a1.length : Int)) = true := decide_eq_true hgo4
  refine NWp.seq ?_
  refine NWp.opsJ ⟨tab [(0, .d (eL (some 8) (eA8 (D.int .u16)) y1)), (1, .d (eL (some 8) (eA8 (D.int .u16)) a1)), (5, vi i2), (8, vi (a1.length : Int)), (9, vb (decide (i2 < (a1.length : Int))))], stab [], 0⟩ ?_ ?_
  ·
   refine q1 (vi i2) ?_
   refine q1 (.d (eL (some 8) (eA8 (D.int .u16)) a1)) ?_
   refine step (v := vi (a1.length : Int)) (st_len (xs := a1) (e := (eA8 (D.int .u16))) rfl) ?_
   refine q1 (vb (decide (i2 < (a1.length : Int)))) ?_
   exact nR []
  refine NWp.rng 8 rfl fun hB3 => ?_
  refine NWp.condT (t := decide (i2 < (a1.length : Int))) rfl hc6 ?_
  refine NWp.skip ?_
  refine NWp.seq ?_
  refine NWp.block ?_
  obtain ⟨x8, hx8, h⟩ := bindE h
  obtain ⟨r9, hr9, h⟩ := bindE h
  refine NWp.opsE ⟨tab [(0, .d (eL (some 8) (eA8 (D.int .u16)) r9)), (1, .d (eL (some 8) (eA8 (D.int .u16)) a1)), (5, vi i2)], stab [], 0⟩ ?_ ?_
  ·
   refine q1 (.d (eL (some 8) (eA8 (D.int .u16)) y1)) ?_
   refine q1 (.d (eL (some 8) (eA8 (D.int .u16)) a1)) ?_
   refine q1 (vi i2) ?_
   refine step (v := .d (.cptr (some 8) (eA8 (D.int .u16) x8) 0)) (st_iaddr (xs := a1) (e := (eA8 (D.int .u16))) hx8 rfl rfl) ?_
   refine q1 (.d (eA8 (D.int .u16) x8)) ?_
   refine stepC (r := eL (some 8) (eA8 (D.int .u16)) r9) (ArgsOk.dt (ArgsOk.dt ArgsOk.nil')) (c_ref01_Add hr9) ?_
   refine q1 (.d (eL (some 8) (eA8 (D.int .u16)) r9)) ?_
   exact nR []
  have hh := Option.some.inj h
  subst hh
  refine NWp.opsE ⟨tab [(0, .d (eL (some 8) (eA8 (D.int .u16)) r9)), (1, .d (eL (some 8) (eA8 (D.int .u16)) a1)), (5, vi (i2 + 1))], stab [], 0⟩ ?_ ?_
  ·
   refine q1 (vi i2) ?_
   refine step (v := vi (i2 + 1)) (st_inc (inc_ok hinv5 hgo4 hB3) rfl rfl) ?_
   refine q1 (vi (i2 + 1)) ?_
   exact nR []
  exact And.intro rfl rfl
 ·
  rintro i2 y1 hinv5 hgo4
  show NWp _ _ _ _ _ ⟨tab [(0, .d (eL (some 8) (eA8 (D.int .u16)) y1)), (1, .d (eL (some 8) (eA8 (D.int .u16)) a1)), (5, vi i2)], stab [], 0⟩
  have hc6 : ¬ (decide (i2 < (a1.length : Int)) = true) := fun hq => hgo4 (of_decide_eq_true hq)
  refine NWp.seq ?_
  refine NWp.opsJ ⟨tab [(0, .d (eL (some 8) (eA8 (D.int .u16)) y1)), (1, .d (eL (some 8) (eA8 (D.int .u16)) a1)), (5, vi i2), (9, vb (decide (i2 < (a1.length : Int))))], stab [], 0⟩ ?_ ?_
  ·
   refine q1 (vi i2) ?_
   refine q1 (.d (eL (some 8) (eA8 (D.int .u16)) a1)) ?_
   refine step (v := vi (a1.length : Int)) (st_len (xs := a1) (e := (eA8 (D.int .u16))) rfl) ?_
   refine q1 (vb (decide (i2 < (a1.length : Int)))) ?_
   exact nR []
  refine NWp.condF (t := decide (i2 < (a1.length : Int))) rfl hc6 ?_
  refine NWp.norm (s0 := ⟨tab [(0, .d (eL (some 8) (eA8 (D.int .u16)) y1))], stab [], 0⟩) (nr []) ?_
  refine NWp.exit ?_
  exact And.intro rfl rfl
 refine NWp.opsJ ⟨tab [(4, .d (eL (some 8) (eA8 (D.int .u16)) z10))], stab [], 0⟩ ?_ ?_
 ·
  refine q1 (.d (eL (some 8) (eA8 (D.int .u16)) z10)) ?_
  refine q1 (.d (eL (some 8) (eA8 (D.int .u16)) z10)) ?_
  exact nR []
 have hh := Option.some.inj h
 subst hh
 refine NWp.ret ?_
 show FQ _ _ _ _
 exact FQ.mk1 (.inr rfl) (res_t (v := .d (eL (some 8) (eA8 (D.int .u16)) z10)) rfl rfl) (RV.d trivial)

theorem c_ref07_run_s {self : api_Pol → (List Int) → (A8 Int) → Option ((List (A8 Int)) × Bool)} (hself : ∀ (a0 : api_Pol) (a1 : (List Int)) (a2 : (A8 Int)) (r : ((List (A8 Int)) × Bool)), self a0 a1 a2 = some r → PCall Try.prog 75 [uapi_Pol a0, eL none (D.int .u16) a1, eA8 (D.int .u16) a2] (.tup [eL (some 8) (eA8 (D.int .u16)) r.1, .bool r.2])) {a0 : api_Pol} {a1 : (List Int)} {a2 : (A8 Int)} {r : ((List (A8 Int)) × Bool)} (h : ref07_run_s self a0 a1 a2 = some r) : PCall Try.prog 75 [uapi_Pol a0, eL none (D.int .u16) a1, eA8 (D.int .u16) a2] (.tup [eL (some 8) (eA8 (D.int .u16)) r.1, .bool r.2]) := by
 refine PCall.introN ok75 (show 3 ≤ 151 by decide) ?_
 refine NWp.norm (s0 := ⟨tab [(0, .d (uapi_Pol a0)), (1, vl2 a1), (2, .d (eA8 (D.int .u16) a2))], stab [], 0⟩) (nr []) ?_
 refine NWp.opsJ ⟨tab [(1, vl2 a1), (3, .d (.cptr (some 4) (uapi_Pol a0) 0)), (5, .d (.cptr (some 8) (eA8 (D.int .u16) a2) 0))], stab [], 0⟩ ?_ ?_
 ·
  refine q1 (.d (.cptr (some 4) (uapi_Pol a0) 0)) ?_
  refine q1 (.d (.cptr (some 8) (eA8 (D.int .u16) a2) 0)) ?_
  refine q1 (.d (eL (some 8) (eA8 (D.int .u16)) ([] : List (A8 Int)))) ?_
  refine q1 (vb false) ?_
  exact nR []
 refine NWp.opsJ ⟨tab [(1, vl2 a1), (3, .d (.cptr (some 4) (uapi_Pol a0) 0)), (5, .d (.cptr (some 8) (eA8 (D.int .u16) a2) 0)), (8, .d (eL (some 8) (eA8 (D.int .u16)) ([a2] : List (A8 Int))))], stab [], 0⟩ ?_ ?_
 ·
  refine q1 (.d (eA8 (D.int .u16) a2)) ?_
  refine q1 (.d (eL (some 8) (eA8 (D.int .u16)) ([a2] : List (A8 Int)))) ?_
  refine q1 (.d (eL (some 8) (eA8 (D.int .u16)) ([a2] : List (A8 Int)))) ?_
  exact nR []
 refine NWp.seq ?_
 refine NWp.opsJ ⟨tab [(1, vl2 a1), (3, .d (.cptr (some 4) (uapi_Pol a0) 0)), (5, .d (.cptr (some 8) (eA8 (D.int .u16) a2) 0)), (8, .d (eL (some 8) (eA8 (D.int .u16)) ([a2] : List (A8 Int)))), (24, vi a0.Op)], stab [], 0⟩ ?_ ?_
 ·
  refine q1 (.d (.cptr (some 4) (uapi_Pol a0) 0)) ?_
  refine q1 (vi a0.Op) ?_
  exact nR []
 refine NWp.block ?_
 refine NWp.opsJ ⟨tab [(1, vl2 a1), (3, .d (.cptr (some 4) (uapi_Pol a0) 0)), (5, .d (.cptr (some 8) (eA8 (D.int .u16) a2) 0)), (8, .d (eL (some 8) (eA8 (D.int .u16)) ([a2] : List (A8 Int)))), (24, vi a0.Op), (25, vb (a0.Op == 0))], stab [], 0⟩ ?_ ?_
 ·
  refine q1 (vb (a0.Op == 0)) ?_
  refine q1 (vb (a0.Op == 0)) ?_
  exact nR []
 by_cases hc1 : (a0.Op == 0) = true
 ·
  replace h := iteT hc1 h
  refine NWp.condT (t := (a0.Op == 0)) rfl hc1 ?_
  refine NWp.opsJ ⟨tab [(6, .d (eL (some 8) (eA8 (D.int .u16)) ([] : List (A8 Int)))), (7, vb true)], stab [], 0⟩ ?_ ?_
  ·
   refine q1 (.d (eL (some 8) (eA8 (D.int .u16)) ([] : List (A8 Int)))) ?_
   refine q1 (vb true) ?_
   exact nR []
  have hh := Option.some.inj h
  subst hh
  refine NWp.ret ?_
  show FQ _ _ _ _
  exact FQ.mkT (.inr rfl) (res_t (v := .d (eL (some 8) (eA8 (D.int .u16)) ([] : List (A8 Int)))) rfl (res_t (v := vb true) rfl rfl)) (RV.d (RV.d trivial))
 ·
  replace h := iteF hc1 h
  refine NWp.condF (t := (a0.Op == 0)) rfl hc1 ?_
  refine NWp.opsJ ⟨tab [(1, vl2 a1), (3, .d (.cptr (some 4) (uapi_Pol a0) 0)), (5, .d (.cptr (some 8) (eA8 (D.int .u16) a2) 0)), (8, .d (eL (some 8) (eA8 (D.int .u16)) ([a2] : List (A8 Int)))), (24, vi a0.Op), (27, vb (a0.Op == 1))], stab [], 0⟩ ?_ ?_
  ·
   refine q1 (vb (a0.Op == 1)) ?_
   refine q1 (vb (a0.Op == 1)) ?_
   exact nR []
  by_cases hc2 : (a0.Op == 1) = true
  ·
   replace h := iteT hc2 h
   refine NWp.condT (t := (a0.Op == 1)) rfl hc2 ?_
   refine NWp.opsJ ⟨tab [(6, .d (eL (some 8) (eA8 (D.int .u16)) ([a2] : List (A8 Int)))), (7, vb true)], stab [], 0⟩ ?_ ?_
   ·
    refine q1 (.d (eL (some 8) (eA8 (D.int .u16)) ([a2] : List (A8 Int)))) ?_
    refine q1 (.d (eL (some 8) (eA8 (D.int .u16)) ([a2] : List (A8 Int)))) ?_
    refine q1 (vb true) ?_
    exact nR []
   have hh := Option.some.inj h
   subst hh
   refine NWp.ret ?_
   show FQ _ _ _ _
   exact FQ.mkT (.inr rfl) (res_t (v := .d (eL (some 8) (eA8 (D.int .u16)) ([a2] : List (A8 Int)))) rfl (res_t (v := vb true) rfl rfl)) (RV.d (RV.d trivial))
  ·
   replace h := iteF hc2 h
   refine NWp.condF (t := (a0.Op == 1)) rfl hc2 ?_
   refine NWp.opsJ ⟨tab [(1, vl2 a1), (3, .d (.cptr (some 4) (uapi_Pol a0) 0)), (5, .d (.cptr (some 8) (eA8 (D.int .u16) a2) 0)), (8, .d (eL (some 8) (eA8 (D.int .u16)) ([a2] : List (A8 Int)))), (24, vi a0.Op), (30, vb (a0.Op == 2))], stab [], 0⟩ ?_ ?_
   ·
    refine q1 (vb (a0.Op == 2)) ?_
    refine q1 (vb (a0.Op == 2)) ?_
    exact nR []
   by_cases hc3 : (a0.Op == 2) = true
   ·
    replace h := iteT hc3 h
    refine NWp.condT (t := (a0.Op == 2)) rfl hc3 ?_
    refine NWp.seq ?_
    obtain ⟨x4, hx4, h⟩ := bindE h
    refine NWp.opsJ ⟨tab [(8, .d (eL (some 8) (eA8 (D.int .u16)) ([a2] : List (A8 Int)))), (38, vb (x4 == a0.N))], stab [], 0⟩ ?_ ?_
    ·
     refine q1 (.d (.cptr (some 4) (uapi_Pol a0) 1)) ?_
     refine q1 (vi a0.F) ?_
     refine step (v := .d (.cptr (some 8) (eA8 (D.int .u16) a2) (0 + a0.F.toNat * 1))) (st_iaddrAC (xs := a2.l) hx4 rfl rfl rfl) ?_
     refine step (v := .d (.int .u16 x4)) (st_ldIC rfl (ld_arr (e := (D.int .u16)) (xs := a2.l) (pre := []) (post := []) hx4 rfl (by decide))) ?_
     refine q1 (.d (.cptr (some 4) (uapi_Pol a0) 2)) ?_
     refine q1 (.d (.int .u16 a0.N)) ?_
     refine q1 (vb (x4 == a0.N)) ?_
     exact nR []
    by_cases hc5 : (x4 == a0.N) = true
    ·
     replace h := iteT hc5 h
     refine NWp.condT (t := (x4 == a0.N)) rfl hc5 ?_
     refine NWp.opsJ ⟨tab [(6, .d (eL (some 8) (eA8 (D.int .u16)) ([a2] : List (A8 Int)))), (7, vb true)], stab [], 0⟩ ?_ ?_
     ·
      refine q1 (.d (eL (some 8) (eA8 (D.int .u16)) ([a2] : List (A8 Int)))) ?_
      refine q1 (.d (eL (some 8) (eA8 (D.int .u16)) ([a2] : List (A8 Int)))) ?_
      refine q1 (vb true) ?_
      exact nR []
     have hh := Option.some.inj h
     subst hh
     refine NWp.ret ?_
     show FQ _ _ _ _
     exact FQ.mkT (.inr rfl) (res_t (v := .d (eL (some 8) (eA8 (D.int .u16)) ([a2] : List (A8 Int)))) rfl (res_t (v := vb true) rfl rfl)) (RV.d (RV.d trivial))
    ·
     replace h := iteF hc5 h
     refine NWp.condF (t := (x4 == a0.N)) rfl hc5 ?_
     refine NWp.skip ?_
     refine NWp.opsJ ⟨tab [(6, .d (eL (some 8) (eA8 (D.int .u16)) ([] : List (A8 Int)))), (7, vb true)], stab [], 0⟩ ?_ ?_
     ·
      refine q1 (.d (eL (some 8) (eA8 (D.int .u16)) ([] : List (A8 Int)))) ?_
      refine q1 (vb true) ?_
      exact nR []
     have hh := Option.some.inj h
     subst hh
     refine NWp.ret ?_
     show FQ _ _ _ _
     exact FQ.mkT (.inr rfl) (res_t (v := .d (eL (some 8) (eA8 (D.int .u16)) ([] : List (A8 Int)))) rfl (res_t (v := vb true) rfl rfl)) (RV.d (RV.d trivial))
   ·
    replace h := iteF hc3 h
    refine NWp.condF (t := (a0.Op == 2)) rfl hc3 ?_
    refine NWp.opsJ ⟨tab [(1, vl2 a1), (3, .d (.cptr (some 4) (uapi_Pol a0) 0)), (5, .d (.cptr (some 8) (eA8 (D.int .u16) a2) 0)), (8, .d (eL (some 8) (eA8 (D.int .u16)) ([a2] : List (A8 Int)))), (24, vi a0.Op), (40, vb (a0.Op == 3))], stab [], 0⟩ ?_ ?_
    ·
     refine q1 (vb (a0.Op == 3)) ?_
     refine q1 (vb (a0.Op == 3)) ?_
     exact nR []
    by_cases hc6 : (a0.Op == 3) = true
    ·
     replace h := iteT hc6 h
     refine NWp.condT (t := (a0.Op == 3)) rfl hc6 ?_
     refine NWp.seq ?_
     obtain ⟨y9, hv, h⟩ := bindE h
     refine NWp.opsJ ⟨tab [(8, .d (eL (some 8) (eA8 (D.int .u16)) ([a2] : List (A8 Int)))), (56, vb y9)], stab [], 0⟩ ?_ ?_
     ·
      refine q1 (.d (.cptr (some 4) (uapi_Pol a0) 1)) ?_
      refine q1 (vi a0.F) ?_
      refine q1 (vl2 a1) ?_
      refine step (v := vi (a1.length : Int)) (st_len (xs := a1) (e := (D.int .u16)) rfl) ?_
      refine q1 (vb (decide (a0.F < (a1.length : Int)))) ?_
      refine q1 (vb (decide (a0.F < (a1.length : Int)))) ?_
      by_cases hg7 : decide (a0.F < (a1.length : Int)) = true
      ·
       replace hv := iteT hg7 hv
       obtain ⟨x8, hx8, hv⟩ := bindE hv
       refine qG (decide (a0.F < (a1.length : Int))) hg7 ?_
       refine q1 (vl2 a1) ?_
       refine qG (decide (a0.F < (a1.length : Int))) hg7 ?_
       refine q1 (.d (.cptr (some 4) (uapi_Pol a0) 1)) ?_
       refine qG (decide (a0.F < (a1.length : Int))) hg7 ?_
       refine q1 (vi a0.F) ?_
       refine qG (decide (a0.F < (a1.length : Int))) hg7 ?_
       refine step (v := .d (.cptr none (.int .u16 x8) 0)) (st_iaddr (xs := a1) (e := (D.int .u16)) hx8 rfl rfl) ?_
       refine qG (decide (a0.F < (a1.length : Int))) hg7 ?_
       refine q1 (.d (.int .u16 x8)) ?_
       refine qG (decide (a0.F < (a1.length : Int))) hg7 ?_
       refine q1 (.d (.cptr (some 4) (uapi_Pol a0) 2)) ?_
       refine qG (decide (a0.F < (a1.length : Int))) hg7 ?_
       refine q1 (.d (.int .u16 a0.N)) ?_
       refine qG (decide (a0.F < (a1.length : Int))) hg7 ?_
       refine q1 (vb (x8 == a0.N)) ?_
       refine step (v := vb (x8 == a0.N)) (st_pickT (b := decide (a0.F < (a1.length : Int))) rfl hg7 rfl) ?_
       have hh := Option.some.inj hv
       subst hh
       exact nR []
      ·
       replace hv := iteF hg7 hv
       refine qX (decide (a0.F < (a1.length : Int))) hg7 ?_
       refine qX (decide (a0.F < (a1.length : Int))) hg7 ?_
       refine qX (decide (a0.F < (a1.length : Int))) hg7 ?_
       refine qX (decide (a0.F < (a1.length : Int))) hg7 ?_
       refine qX (decide (a0.F < (a1.length : Int))) hg7 ?_
       refine qX (decide (a0.F < (a1.length : Int))) hg7 ?_
       refine qX (decide (a0.F < (a1.length : Int))) hg7 ?_
       refine qX (decide (a0.F < (a1.length : Int))) hg7 ?_
       refine step (v := vb false) (st_pickF (b := decide (a0.F < (a1.length : Int))) rfl hg7 rfl) ?_
       have hh := Option.some.inj hv
       subst hh
       exact nR []
     by_cases hc11 : y9 = true
     ·
      replace h := iteT hc11 h
      refine NWp.condT (t := y9) rfl hc11 ?_
      refine NWp.opsJ ⟨tab [(6, .d (eL (some 8) (eA8 (D.int .u16)) ([a2] : List (A8 Int)))), (7, vb true)], stab [], 0⟩ ?_ ?_
      ·
       refine q1 (.d (eL (some 8) (eA8 (D.int .u16)) ([a2] : List (A8 Int)))) ?_
       refine q1 (.d (eL (some 8) (eA8 (D.int .u16)) ([a2] : List (A8 Int)))) ?_
       refine q1 (vb true) ?_
       exact nR []
      have hh := Option.some.inj h
      subst hh
      refine NWp.ret ?_
      show FQ _ _ _ _
      exact FQ.mkT (.inr rfl) (res_t (v := .d (eL (some 8) (eA8 (D.int .u16)) ([a2] : List (A8 Int)))) rfl (res_t (v := vb true) rfl rfl)) (RV.d (RV.d trivial))
     ·
      replace h := iteF hc11 h
      refine NWp.condF (t := y9) rfl hc11 ?_
      refine NWp.skip ?_
      refine NWp.opsJ ⟨tab [(6, .d (eL (some 8) (eA8 (D.int .u16)) ([] : List (A8 Int)))), (7, vb true)], stab [], 0⟩ ?_ ?_
      ·
       refine q1 (.d (eL (some 8) (eA8 (D.int .u16)) ([] : List (A8 Int)))) ?_
       refine q1 (vb true) ?_
       exact nR []
      have hh := Option.some.inj h
      subst hh
      refine NWp.ret ?_
      show FQ _ _ _ _
      exact FQ.mkT (.inr rfl) (res_t (v := .d (eL (some 8) (eA8 (D.int .u16)) ([] : List (A8 Int)))) rfl (res_t (v := vb true) rfl rfl)) (RV.d (RV.d trivial))
    ·
     replace h := iteF hc6 h
     refine NWp.condF (t := (a0.Op == 3)) rfl hc6 ?_
     refine NWp.opsJ ⟨tab [(1, vl2 a1), (3, .d (.cptr (some 4) (uapi_Pol a0) 0)), (5, .d (.cptr (some 8) (eA8 (D.int .u16) a2) 0)), (8, .d (eL (some 8) (eA8 (D.int .u16)) ([a2] : List (A8 Int)))), (24, vi a0.Op), (58, vb (a0.Op == 4))], stab [], 0⟩ ?_ ?_
     ·
      refine q1 (vb (a0.Op == 4)) ?_
      refine q1 (vb (a0.Op == 4)) ?_
      exact nR []
     by_cases hc12 : (a0.Op == 4) = true
     ·
      replace h := iteT hc12 h
      refine NWp.condT (t := (a0.Op == 4)) rfl hc12 ?_
      obtain ⟨x13, hx13, h⟩ := bindE h
      obtain ⟨r14, hr14, h⟩ := bindE h
      refine NWp.opsJ ⟨tab [(8, .d (eL (some 8) (eA8 (D.int .u16)) ([a2] : List (A8 Int)))), (9, .d (eL (some 8) (eA8 (D.int .u16)) r14.1)), (10, vb r14.2)], stab [], 0⟩ ?_ ?_
      ·
       refine q1 (.d (.cptr (some 4) (uapi_Pol a0) 3)) ?_
       refine q1 (vl0 a0.Kids) ?_
       refine step (v := .d (.cptr (some 4) (uapi_Pol x13) 0)) (st_iaddrU (xs := a0.Kids) (e := eapi_Pol) hx13 rfl rfl (eu_api_Pol _)) ?_
       refine q1 (.d (uapi_Pol x13)) ?_
       refine q1 (vl2 a1) ?_
       refine q1 (.d (eA8 (D.int .u16) a2)) ?_
       refine stepC (r := .tup [eL (some 8) (eA8 (D.int .u16)) r14.1, .bool r14.2]) (ArgsOk.dt (ArgsOk.dt (ArgsOk.dt ArgsOk.nil'))) (hself _ _ _ _ hr14) ?_
       refine q1 (.d (.tup [eL (some 8) (eA8 (D.int .u16)) r14.1, .bool r14.2])) ?_
       refine q1 (.d (eL (some 8) (eA8 (D.int .u16)) r14.1)) ?_
       refine q1 (vb r14.2) ?_
       refine q1 (.d (eL (some 8) (eA8 (D.int .u16)) r14.1)) ?_
       refine q1 (vb r14.2) ?_
       exact nR []
      obtain ⟨y16, hv, h⟩ := bindE h
      refine NWp.seqN ⟨tab [(8, .d (eL (some 8) (eA8 (D.int .u16)) y16)), (10, vb r14.2)], stab [], 0⟩ ?_ ?_
      ·
       replace h := hv
       refine NWp.opsJ ⟨tab [(8, .d (eL (some 8) (eA8 (D.int .u16)) ([a2] : List (A8 Int)))), (10, vb r14.2), (72, vb (decide ((r14.1.length : Int) > 0)))], stab [], 0⟩ ?_ ?_
       ·
        refine q1 (.d (eL (some 8) (eA8 (D.int .u16)) r14.1)) ?_
        refine step (v := vi (r14.1.length : Int)) (st_len (xs := r14.1) (e := (eA8 (D.int .u16))) rfl) ?_
        refine q1 (vb (decide ((r14.1.length : Int) > 0))) ?_
        exact nR []
       by_cases hc15 : decide ((r14.1.length : Int) > 0) = true
       ·
        replace h := iteT hc15 h
        refine NWp.condT (t := decide ((r14.1.length : Int) > 0)) rfl hc15 ?_
        have hh := Option.some.inj h
        subst hh
        refine NWp.opsE ⟨tab [(8, .d (eL (some 8) (eA8 (D.int .u16)) ([] : List (A8 Int)))), (10, vb r14.2)], stab [], 0⟩ ?_ ?_
        ·
         refine q1 (.d (eL (some 8) (eA8 (D.int .u16)) ([] : List (A8 Int)))) ?_
         exact nR []
        exact And.intro rfl rfl
       ·
        replace h := iteF hc15 h
        refine NWp.condF (t := decide ((r14.1.length : Int) > 0)) rfl hc15 ?_
        have hh := Option.some.inj h
        subst hh
        refine NWp.norm (s0 := ⟨tab [(8, .d (eL (some 8) (eA8 (D.int .u16)) ([a2] : List (A8 Int)))), (10, vb r14.2)], stab [], 0⟩) (nr []) ?_
        refine NWp.skip ?_
        exact And.intro rfl rfl
      refine NWp.opsJ ⟨tab [(6, .d (eL (some 8) (eA8 (D.int .u16)) y16)), (7, vb r14.2)], stab [], 0⟩ ?_ ?_
      ·
       refine q1 (.d (eL (some 8) (eA8 (D.int .u16)) y16)) ?_
       refine q1 (vb r14.2) ?_
       refine q1 (.d (eL (some 8) (eA8 (D.int .u16)) y16)) ?_
       refine q1 (vb r14.2) ?_
       exact nR []
      have hh := Option.some.inj h
      subst hh
      refine NWp.ret ?_
      show FQ _ _ _ _
      exact FQ.mkT (.inr rfl) (res_t (v := .d (eL (some 8) (eA8 (D.int .u16)) y16)) rfl (res_t (v := vb r14.2) rfl rfl)) (RV.d (RV.d trivial))
     ·
      replace h := iteF hc12 h
      refine NWp.condF (t := (a0.Op == 4)) rfl hc12 ?_
      refine NWp.opsJ ⟨tab [(1, vl2 a1), (3, .d (.cptr (some 4) (uapi_Pol a0) 0)), (5, .d (.cptr (some 8) (eA8 (D.int .u16) a2) 0)), (8, .d (eL (some 8) (eA8 (D.int .u16)) ([a2] : List (A8 Int)))), (24, vi a0.Op), (75, vb (a0.Op == 5))], stab [], 0⟩ ?_ ?_
      ·
       refine q1 (vb (a0.Op == 5)) ?_
       refine q1 (vb (a0.Op == 5)) ?_
       exact nR []
      by_cases hc18 : (a0.Op == 5) = true
      ·
       replace h := iteT hc18 h
       refine NWp.condT (t := (a0.Op == 5)) rfl hc18 ?_
       obtain ⟨r19, hr19, h⟩ := bindE h
       refine NWp.opsJ ⟨tab [(6, .d (eL (some 8) (eA8 (D.int .u16)) ([r19] : List (A8 Int)))), (7, vb true)], stab [], 0⟩ ?_ ?_
       ·
        refine q1 (.d (eA8 (D.int .u16) a2)) ?_
        refine q1 (.d (.cptr (some 4) (uapi_Pol a0) 1)) ?_
        refine q1 (vi a0.F) ?_
        refine q1 (.d (.cptr (some 4) (uapi_Pol a0) 2)) ?_
        refine q1 (.d (.int .u16 a0.N)) ?_
        refine stepC (r := eA8 (D.int .u16) r19) (ArgsOk.dt (ArgsOk.dt (ArgsOk.dt ArgsOk.nil'))) (c_ref01_With hr19) ?_
        refine q1 (.d (eL (some 8) (eA8 (D.int .u16)) ([r19] : List (A8 Int)))) ?_
        refine q1 (.d (eL (some 8) (eA8 (D.int .u16)) ([r19] : List (A8 Int)))) ?_
        refine q1 (vb true) ?_
        exact nR []
       have hh := Option.some.inj h
       subst hh
       refine NWp.ret ?_
       show FQ _ _ _ _
       exact FQ.mkT (.inr rfl) (res_t (v := .d (eL (some 8) (eA8 (D.int .u16)) ([r19] : List (A8 Int)))) rfl (res_t (v := vb true) rfl rfl)) (RV.d (RV.d trivial))
      ·
       replace h := iteF hc18 h
       refine NWp.condF (t := (a0.Op == 5)) rfl hc18 ?_
       refine NWp.opsJ ⟨tab [(1, vl2 a1), (3, .d (.cptr (some 4) (uapi_Pol a0) 0)), (5, .d (.cptr (some 8) (eA8 (D.int .u16) a2) 0)), (8, .d (eL (some 8) (eA8 (D.int .u16)) ([a2] : List (A8 Int)))), (84, vb (a0.Op == 6))], stab [], 0⟩ ?_ ?_
       ·
        refine q1 (vb (a0.Op == 6)) ?_
        refine q1 (vb (a0.Op == 6)) ?_
        exact nR []
       by_cases hc20 : (a0.Op == 6) = true
       ·
        replace h := iteT hc20 h
        refine NWp.condT (t := (a0.Op == 6)) rfl hc20 ?_
        refine NWp.opsJ ⟨tab [(1, vl2 a1), (3, .d (.cptr (some 4) (uapi_Pol a0) 0)), (11, .d (eL (some 8) (eA8 (D.int .u16)) ([a2] : List (A8 Int))))], stab [], 0⟩ ?_ ?_
        ·
         refine q1 (.d (eL (some 8) (eA8 (D.int .u16)) ([a2] : List (A8 Int)))) ?_
         refine q1 (.d (eL (some 8) (eA8 (D.int .u16)) ([a2] : List (A8 Int)))) ?_
         exact nR []
        refine NWp.seq ?_
        refine NWp.opsJ ⟨tab [(1, vl2 a1), (3, .d (.cptr (some 4) (uapi_Pol a0) 0)), (11, .d (eL (some 8) (eA8 (D.int .u16)) ([a2] : List (A8 Int)))), (12, vi 0)], stab [], 0⟩ ?_ ?_
        ·
         refine q1 (vi 0) ?_
         exact nR []
        obtain ⟨q44, hl, h⟩ := bindE h
        refine NWp.block ?_
        refine loop_forR (cntU (a0.Kids.length : Int)) (fun (i22 : Int) (qq : (List (A8 Int))) => ⟨tab [(1, vl2 a1), (3, .d (.cptr (some 4) (uapi_Pol a0) 0)), (11, .d (eL (some 8) (eA8 (D.int .u16)) qq)), (12, vi i22)], stab [], 0⟩) 1 (fun (qq : (List (A8 Int))) => ⟨tab [(11, .d (eL (some 8) (eA8 (D.int .u16)) qq))], stab [], 0⟩) Low low_step (r := r) hl (by unfold Low; omega) ?_ ?_ ?_ ?_
        ·
         rintro i22 y21 xr27 hinv25 hgo24 h
         show NWp _ _ _ _ _ ⟨tab [(1, vl2 a1), (3, .d (.cptr (some 4) (uapi_Pol a0) 0)), (11, .d (eL (some 8) (eA8 (D.int .u16)) y21)), (12, vi i22)], stab [], 0⟩
         have hc26 : decide (i22 < (a0.Kids.length : Int)) = true := decide_eq_true hgo24
         refine NWp.seq ?_
         refine NWp.opsJ ⟨tab [(1, vl2 a1), (3, .d (.cptr (some 4) (uapi_Pol a0) 0)), (11, .d (eL (some 8) (eA8 (D.int .u16)) y21)), (12, vi i22), (90, vi (a0.Kids.length : Int)), (91, vb (decide (i22 < (a0.Kids.length : Int))))], stab [], 0⟩ ?_ ?_
         ·
          refine q1 (vi i22) ?_
          refine q1 (.d (.cptr (some 4) (uapi_Pol a0) 3)) ?_
          refine q1 (vl0 a0.Kids) ?_
          refine step (v := vi (a0.Kids.length : Int)) (st_len (xs := a0.Kids) (e := eapi_Pol) rfl) ?_
          refine q1 (vb (decide (i22 < (a0.Kids.length : Int)))) ?_
          exact nR []
         refine NWp.rng 90 rfl fun hB23 => ?_
         refine NWp.condT (t := decide (i22 < (a0.Kids.length : Int))) rfl hc26 ?_
         refine NWp.skip ?_
         refine NWp.seq ?_
         refine NWp.block ?_
         refine NWp.opsJ ⟨tab [(1, vl2 a1), (3, .d (.cptr (some 4) (uapi_Pol a0) 0)), (11, .d (eL (some 8) (eA8 (D.int .u16)) y21)), (12, vi i22), (13, .d (eL (some 8) (eA8 (D.int .u16)) ([] : List (A8 Int))))], stab [], 0⟩ ?_ ?_
         ·
          refine q1 (.d (eL (some 8) (eA8 (D.int .u16)) ([] : List (A8 Int)))) ?_
          exact nR []
         refine NWp.seq ?_
         refine NWp.opsJ ⟨tab [(1, vl2 a1), (3, .d (.cptr (some 4) (uapi_Pol a0) 0)), (11, .d (eL (some 8) (eA8 (D.int .u16)) y21)), (12, vi i22), (13, .d (eL (some 8) (eA8 (D.int .u16)) ([] : List (A8 Int)))), (14, vi 0)], stab [], 0⟩ ?_ ?_
         ·
          refine q1 (vi 0) ?_
          exact nR []
         obtain ⟨q42, hl, h⟩ := bindE h
         refine NWp.block ?_
         refine loop_forR (cntU (y21.length : Int)) (fun (i29 : Int) (qq : (List (A8 Int))) => ⟨tab [(1, vl2 a1), (3, .d (.cptr (some 4) (uapi_Pol a0) 0)), (11, .d (eL (some 8) (eA8 (D.int .u16)) y21)), (12, vi i22), (13, .d (eL (some 8) (eA8 (D.int .u16)) qq)), (14, vi i29)], stab [], 0⟩) 3 (fun (qq : (List (A8 Int))) => ⟨tab [(1, vl2 a1), (3, .d (.cptr (some 4) (uapi_Pol a0) 0)), (12, vi i22), (13, .d (eL (some 8) (eA8 (D.int .u16)) qq))], stab [], 0⟩) Low low_step (r := xr27) hl (by unfold Low; omega) ?_ ?_ ?_ ?_
         ·
          rintro i29 y28 xr34 hinv32 hgo31 h
          show NWp _ _ _ _ _ ⟨tab [(1, vl2 a1), (3, .d (.cptr (some 4) (uapi_Pol a0) 0)), (11, .d (eL (some 8) (eA8 (D.int .u16)) y21)), (12, vi i22), (13, .d (eL (some 8) (eA8 (D.int .u16)) y28)), (14, vi i29)], stab [], 0⟩
          have hc33 : decide (i29 < (y21.length : Int)) = true := decide_eq_true hgo31
          refine NWp.seq ?_
          refine NWp.opsJ ⟨tab [(1, vl2 a1), (3, .d (.cptr (some 4) (uapi_Pol a0) 0)), (11, .d (eL (some 8) (eA8 (D.int .u16)) y21)), (12, vi i22), (13, .d (eL (some 8) (eA8 (D.int .u16)) y28)), (14, vi i29), (96, vi (y21.length : Int)), (97, vb (decide (i29 < (y21.length : Int))))], stab [], 0⟩ ?_ ?_
          ·
           refine q1 (vi i29) ?_
           refine q1 (.d (eL (some 8) (eA8 (D.int .u16)) y21)) ?_
           refine step (v := vi (y21.length : Int)) (st_len (xs := y21) (e := (eA8 (D.int .u16))) rfl) ?_
           refine q1 (vb (decide (i29 < (y21.length : Int)))) ?_
           exact nR []
          refine NWp.rng 96 rfl fun hB30 => ?_
          refine NWp.condT (t := decide (i29 < (y21.length : Int))) rfl hc33 ?_
          refine NWp.skip ?_
          refine NWp.seq ?_
          refine NWp.block ?_
          obtain ⟨x35, hx35, h⟩ := bindE h
          obtain ⟨x36, hx36, h⟩ := bindE h
          obtain ⟨r37, hr37, h⟩ := bindE h
          refine NWp.opsJ ⟨tab [(1, vl2 a1), (3, .d (.cptr (some 4) (uapi_Pol a0) 0)), (11, .d (eL (some 8) (eA8 (D.int .u16)) y21)), (12, vi i22), (13, .d (eL (some 8) (eA8 (D.int .u16)) y28)), (14, vi i29), (15, .d (eL (some 8) (eA8 (D.int .u16)) r37.1)), (16, vb r37.2)], stab [], 0⟩ ?_ ?_
          ·
           refine q1 (.d (.cptr (some 4) (uapi_Pol a0) 3)) ?_
           refine q1 (vl0 a0.Kids) ?_
           refine q1 (vi i22) ?_
           refine step (v := .d (.cptr (some 4) (uapi_Pol x35) 0)) (st_iaddrU (xs := a0.Kids) (e := eapi_Pol) hx35 rfl rfl (eu_api_Pol _)) ?_
           refine q1 (.d (uapi_Pol x35)) ?_
           refine q1 (vl2 a1) ?_
           refine q1 (.d (eL (some 8) (eA8 (D.int .u16)) y21)) ?_
           refine q1 (vi i29) ?_
           refine step (v := .d (.cptr (some 8) (eA8 (D.int .u16) x36) 0)) (st_iaddr (xs := y21) (e := (eA8 (D.int .u16))) hx36 rfl rfl) ?_
           refine q1 (.d (eA8 (D.int .u16) x36)) ?_
           refine stepC (r := .tup [eL (some 8) (eA8 (D.int .u16)) r37.1, .bool r37.2]) (ArgsOk.dt (ArgsOk.dt (ArgsOk.dt ArgsOk.nil'))) (hself _ _ _ _ hr37) ?_
           refine q1 (.d (.tup [eL (some 8) (eA8 (D.int .u16)) r37.1, .bool r37.2])) ?_
           refine q1 (.d (eL (some 8) (eA8 (D.int .u16)) r37.1)) ?_
           refine q1 (vb r37.2) ?_
           refine q1 (.d (eL (some 8) (eA8 (D.int .u16)) r37.1)) ?_
           refine q1 (vb r37.2) ?_
           exact nR []
          refine NWp.seq ?_
          refine NWp.opsJ ⟨tab [(1, vl2 a1), (3, .d (.cptr (some 4) (uapi_Pol a0) 0)), (11, .d (eL (some 8) (eA8 (D.int .u16)) y21)), (12, vi i22), (13, .d (eL (some 8) (eA8 (D.int .u16)) y28)), (14, vi i29), (15, .d (eL (some 8) (eA8 (D.int .u16)) r37.1)), (115, vb (!r37.2))], stab [], 0⟩ ?_ ?_
          ·
           refine q1 (vb r37.2) ?_
           refine q1 (vb (!r37.2)) ?_
           exact nR []
          by_cases hc38 : (!r37.2) = true
          ·
           replace h := iteT hc38 h
           refine NWp.condT (t := (!r37.2)) rfl hc38 ?_
           refine NWp.opsJ ⟨tab [(6, .d (eL (some 8) (eA8 (D.int .u16)) ([] : List (A8 Int)))), (7, vb false)], stab [], 0⟩ ?_ ?_
           ·
            refine q1 (.d (eL (some 8) (eA8 (D.int .u16)) ([] : List (A8 Int)))) ?_
            refine q1 (vb false) ?_
            exact nR []
           obtain ⟨r39, kr39, hr⟩ := mapE (o := some (Br.ret (([] : List (A8 Int)), false))) (g := Br.ret) h
           subst hr
           have h := kr39
           obtain ⟨r40, kr40, hr⟩ := mapE (o := some (([] : List (A8 Int)), false)) (g := Br.ret) h
           subst hr
           have h := kr40
           have hh := Option.some.inj h
           subst hh
           refine NWp.ret ?_
           refine And.intro (fun hn => nomatch hn) ?_
           intro hq
           have hq := hq.symm
           subst hq
           refine And.intro (fun hn => nomatch hn) ?_
           intro hq
           have hq := hq.symm
           subst hq
           show FQ _ _ _ _
           exact FQ.mkT (.inr rfl) (res_t (v := .d (eL (some 8) (eA8 (D.int .u16)) ([] : List (A8 Int)))) rfl (res_t (v := vb false) rfl rfl)) (RV.d (RV.d trivial))
          ·
           replace h := iteF hc38 h
           refine NWp.condF (t := (!r37.2)) rfl hc38 ?_
           refine NWp.skip ?_
           obtain ⟨r39, hr39, h⟩ := bindE h
           refine NWp.opsE ⟨tab [(1, vl2 a1), (3, .d (.cptr (some 4) (uapi_Pol a0) 0)), (11, .d (eL (some 8) (eA8 (D.int .u16)) y21)), (12, vi i22), (13, .d (eL (some 8) (eA8 (D.int .u16)) r39)), (14, vi i29)], stab [], 0⟩ ?_ ?_
           ·
            refine q1 (.d (eL (some 8) (eA8 (D.int .u16)) y28)) ?_
            refine q1 (.d (eL (some 8) (eA8 (D.int .u16)) r37.1)) ?_
            refine stepC (r := eL (some 8) (eA8 (D.int .u16)) r39) (ArgsOk.dt (ArgsOk.dt ArgsOk.nil')) (c_ref07_union hr39) ?_
            refine q1 (.d (eL (some 8) (eA8 (D.int .u16)) r39)) ?_
            exact nR []
           have hh := Option.some.inj h
           subst hh
           refine NWp.opsE ⟨tab [(1, vl2 a1), (3, .d (.cptr (some 4) (uapi_Pol a0) 0)), (11, .d (eL (some 8) (eA8 (D.int .u16)) y21)), (12, vi i22), (13, .d (eL (some 8) (eA8 (D.int .u16)) r39)), (14, vi (i29 + 1))], stab [], 0⟩ ?_ ?_
           ·
            refine q1 (vi i29) ?_
            refine step (v := vi (i29 + 1)) (st_inc (inc_ok hinv32 hgo31 hB30) rfl rfl) ?_
            refine q1 (vi (i29 + 1)) ?_
            exact nR []
           exact And.intro rfl rfl
         ·
          rintro i29 y28 hinv32 hgo31
          show NWp _ _ _ _ _ ⟨tab [(1, vl2 a1), (3, .d (.cptr (some 4) (uapi_Pol a0) 0)), (11, .d (eL (some 8) (eA8 (D.int .u16)) y21)), (12, vi i22), (13, .d (eL (some 8) (eA8 (D.int .u16)) y28)), (14, vi i29)], stab [], 0⟩
          have hc33 : ¬ (decide (i29 < (y21.length : Int)) = true) := fun hq => hgo31 (of_decide_eq_true hq)
          refine NWp.seq ?_
          refine NWp.opsJ ⟨tab [(1, vl2 a1), (3, .d (.cptr (some 4) (uapi_Pol a0) 0)), (11, .d (eL (some 8) (eA8 (D.int .u16)) y21)), (12, vi i22), (13, .d (eL (some 8) (eA8 (D.int .u16)) y28)), (14, vi i29), (97, vb (decide (i29 < (y21.length : Int))))], stab [], 0⟩ ?_ ?_
          ·
           refine q1 (vi i29) ?_
           refine q1 (.d (eL (some 8) (eA8 (D.int .u16)) y21)) ?_
           refine step (v := vi (y21.length : Int)) (st_len (xs := y21) (e := (eA8 (D.int .u16))) rfl) ?_
           refine q1 (vb (decide (i29 < (y21.length : Int)))) ?_
           exact nR []
          refine NWp.condF (t := decide (i29 < (y21.length : Int))) rfl hc33 ?_
          refine NWp.norm (s0 := ⟨tab [(1, vl2 a1), (3, .d (.cptr (some 4) (uapi_Pol a0) 0)), (12, vi i22), (13, .d (eL (some 8) (eA8 (D.int .u16)) y28))], stab [], 0⟩) (nr []) ?_
          refine NWp.exit ?_
          exact And.intro rfl rfl
         ·
          intro r' hq
          subst hq
          exact Option.some.inj h
         rintro z40 rfl
         refine NWp.seq ?_
         refine NWp.opsJ ⟨tab [(1, vl2 a1), (3, .d (.cptr (some 4) (uapi_Pol a0) 0)), (12, vi i22), (13, .d (eL (some 8) (eA8 (D.int .u16)) z40)), (121, vb (decide ((z40.length : Int) > 64)))], stab [], 0⟩ ?_ ?_
         ·
          refine q1 (.d (eL (some 8) (eA8 (D.int .u16)) z40)) ?_
          refine step (v := vi (z40.length : Int)) (st_len (xs := z40) (e := (eA8 (D.int .u16))) rfl) ?_
          refine q1 (vb (decide ((z40.length : Int) > 64))) ?_
          exact nR []
         by_cases hc41 : decide ((z40.length : Int) > 64) = true
         ·
          replace h := iteT hc41 h
          refine NWp.condT (t := decide ((z40.length : Int) > 64)) rfl hc41 ?_
          refine NWp.opsJ ⟨tab [(6, .d (eL (some 8) (eA8 (D.int .u16)) ([] : List (A8 Int)))), (7, vb false)], stab [], 0⟩ ?_ ?_
          ·
           refine q1 (.d (eL (some 8) (eA8 (D.int .u16)) ([] : List (A8 Int)))) ?_
           refine q1 (vb false) ?_
           exact nR []
          obtain ⟨r42, kr42, hr⟩ := mapE (o := some (([] : List (A8 Int)), false)) (g := Br.ret) h
          subst hr
          have h := kr42
          have hh := Option.some.inj h
          subst hh
          refine NWp.ret ?_
          refine And.intro (fun hn => nomatch hn) ?_
          intro hq
          have hq := hq.symm
          subst hq
          show FQ _ _ _ _
          exact FQ.mkT (.inr rfl) (res_t (v := .d (eL (some 8) (eA8 (D.int .u16)) ([] : List (A8 Int)))) rfl (res_t (v := vb false) rfl rfl)) (RV.d (RV.d trivial))
         ·
          replace h := iteF hc41 h
          refine NWp.condF (t := decide ((z40.length : Int) > 64)) rfl hc41 ?_
          refine NWp.skip ?_
          refine NWp.opsE ⟨tab [(1, vl2 a1), (3, .d (.cptr (some 4) (uapi_Pol a0) 0)), (11, .d (eL (some 8) (eA8 (D.int .u16)) z40)), (12, vi i22)], stab [], 0⟩ ?_ ?_
          ·
           refine q1 (.d (eL (some 8) (eA8 (D.int .u16)) z40)) ?_
           refine q1 (.d (eL (some 8) (eA8 (D.int .u16)) z40)) ?_
           exact nR []
          have hh := Option.some.inj h
          subst hh
          refine NWp.opsE ⟨tab [(1, vl2 a1), (3, .d (.cptr (some 4) (uapi_Pol a0) 0)), (11, .d (eL (some 8) (eA8 (D.int .u16)) z40)), (12, vi (i22 + 1))], stab [], 0⟩ ?_ ?_
          ·
           refine q1 (vi i22) ?_
           refine step (v := vi (i22 + 1)) (st_inc (inc_ok hinv25 hgo24 hB23) rfl rfl) ?_
           refine q1 (vi (i22 + 1)) ?_
           exact nR []
          exact And.intro rfl rfl
        ·
         rintro i22 y21 hinv25 hgo24
         show NWp _ _ _ _ _ ⟨tab [(1, vl2 a1), (3, .d (.cptr (some 4) (uapi_Pol a0) 0)), (11, .d (eL (some 8) (eA8 (D.int .u16)) y21)), (12, vi i22)], stab [], 0⟩
         have hc26 : ¬ (decide (i22 < (a0.Kids.length : Int)) = true) := fun hq => hgo24 (of_decide_eq_true hq)
         refine NWp.seq ?_
         refine NWp.opsJ ⟨tab [(1, vl2 a1), (3, .d (.cptr (some 4) (uapi_Pol a0) 0)), (11, .d (eL (some 8) (eA8 (D.int .u16)) y21)), (12, vi i22), (91, vb (decide (i22 < (a0.Kids.length : Int))))], stab [], 0⟩ ?_ ?_
         ·
          refine q1 (vi i22) ?_
          refine q1 (.d (.cptr (some 4) (uapi_Pol a0) 3)) ?_
          refine q1 (vl0 a0.Kids) ?_
          refine step (v := vi (a0.Kids.length : Int)) (st_len (xs := a0.Kids) (e := eapi_Pol) rfl) ?_
          refine q1 (vb (decide (i22 < (a0.Kids.length : Int)))) ?_
          exact nR []
         refine NWp.condF (t := decide (i22 < (a0.Kids.length : Int))) rfl hc26 ?_
         refine NWp.norm (s0 := ⟨tab [(11, .d (eL (some 8) (eA8 (D.int .u16)) y21))], stab [], 0⟩) (nr []) ?_
         refine NWp.exit ?_
         exact And.intro rfl rfl
        ·
         intro r' hq
         subst hq
         exact Option.some.inj h
        rintro z43 rfl
        refine NWp.opsJ ⟨tab [(6, .d (eL (some 8) (eA8 (D.int .u16)) z43)), (7, vb true)], stab [], 0⟩ ?_ ?_
        ·
         refine q1 (.d (eL (some 8) (eA8 (D.int .u16)) z43)) ?_
         refine q1 (.d (eL (some 8) (eA8 (D.int .u16)) z43)) ?_
         refine q1 (vb true) ?_
         exact nR []
        have hh := Option.some.inj h
        subst hh
        refine NWp.ret ?_
        show FQ _ _ _ _
        exact FQ.mkT (.inr rfl) (res_t (v := .d (eL (some 8) (eA8 (D.int .u16)) z43)) rfl (res_t (v := vb true) rfl rfl)) (RV.d (RV.d trivial))
       ·
        replace h := iteF hc20 h
        refine NWp.condF (t := (a0.Op == 6)) rfl hc20 ?_
        refine NWp.skip ?_
        refine NWp.opsJ ⟨tab [(1, vl2 a1), (3, .d (.cptr (some 4) (uapi_Pol a0) 0)), (5, .d (.cptr (some 8) (eA8 (D.int .u16) a2) 0)), (17, .d (eL (some 8) (eA8 (D.int .u16)) ([] : List (A8 Int))))], stab [], 0⟩ ?_ ?_
        ·
         refine q1 (.d (eL (some 8) (eA8 (D.int .u16)) ([] : List (A8 Int)))) ?_
         exact nR []
        refine NWp.seq ?_
        refine NWp.opsJ ⟨tab [(1, vl2 a1), (3, .d (.cptr (some 4) (uapi_Pol a0) 0)), (5, .d (.cptr (some 8) (eA8 (D.int .u16) a2) 0)), (17, .d (eL (some 8) (eA8 (D.int .u16)) ([] : List (A8 Int)))), (18, vi 0)], stab [], 0⟩ ?_ ?_
        ·
         refine q1 (vi 0) ?_
         exact nR []
        obtain ⟨q58, hl, h⟩ := bindE h
        refine NWp.block ?_
        refine loop_forR (cntU (a0.Kids.length : Int)) (fun (i46 : Int) (qq : (List (A8 Int))) => ⟨tab [(1, vl2 a1), (3, .d (.cptr (some 4) (uapi_Pol a0) 0)), (5, .d (.cptr (some 8) (eA8 (D.int .u16) a2) 0)), (17, .d (eL (some 8) (eA8 (D.int .u16)) qq)), (18, vi i46)], stab [], 0⟩) 5 (fun (qq : (List (A8 Int))) => ⟨tab [(17, .d (eL (some 8) (eA8 (D.int .u16)) qq))], stab [], 0⟩) Low low_step (r := r) hl (by unfold Low; omega) ?_ ?_ ?_ ?_
        ·
         rintro i46 y45 xr51 hinv49 hgo48 h
         show NWp _ _ _ _ _ ⟨tab [(1, vl2 a1), (3, .d (.cptr (some 4) (uapi_Pol a0) 0)), (5, .d (.cptr (some 8) (eA8 (D.int .u16) a2) 0)), (17, .d (eL (some 8) (eA8 (D.int .u16)) y45)), (18, vi i46)], stab [], 0⟩
         have hc50 : decide (i46 < (a0.Kids.length : Int)) = true := decide_eq_true hgo48
         refine NWp.seq ?_
         refine NWp.opsJ ⟨tab [(1, vl2 a1), (3, .d (.cptr (some 4) (uapi_Pol a0) 0)), (5, .d (.cptr (some 8) (eA8 (D.int .u16) a2) 0)), (17, .d (eL (some 8) (eA8 (D.int .u16)) y45)), (18, vi i46), (127, vi (a0.Kids.length : Int)), (128, vb (decide (i46 < (a0.Kids.length : Int))))], stab [], 0⟩ ?_ ?_
         ·
          refine q1 (vi i46) ?_
          refine q1 (.d (.cptr (some 4) (uapi_Pol a0) 3)) ?_
          refine q1 (vl0 a0.Kids) ?_
          refine step (v := vi (a0.Kids.length : Int)) (st_len (xs := a0.Kids) (e := eapi_Pol) rfl) ?_
          refine q1 (vb (decide (i46 < (a0.Kids.length : Int)))) ?_
          exact nR []
         refine NWp.rng 127 rfl fun hB47 => ?_
         refine NWp.condT (t := decide (i46 < (a0.Kids.length : Int))) rfl hc50 ?_
         refine NWp.skip ?_
         refine NWp.seq ?_
         refine NWp.block ?_
         obtain ⟨x52, hx52, h⟩ := bindE h
         obtain ⟨r53, hr53, h⟩ := bindE h
         refine NWp.opsJ ⟨tab [(1, vl2 a1), (3, .d (.cptr (some 4) (uapi_Pol a0) 0)), (5, .d (.cptr (some 8) (eA8 (D.int .u16) a2) 0)), (17, .d (eL (some 8) (eA8 (D.int .u16)) y45)), (18, vi i46), (19, .d (eL (some 8) (eA8 (D.int .u16)) r53.1)), (20, vb r53.2)], stab [], 0⟩ ?_ ?_
         ·
          refine q1 (.d (.cptr (some 4) (uapi_Pol a0) 3)) ?_
          refine q1 (vl0 a0.Kids) ?_
          refine q1 (vi i46) ?_
          refine step (v := .d (.cptr (some 4) (uapi_Pol x52) 0)) (st_iaddrU (xs := a0.Kids) (e := eapi_Pol) hx52 rfl rfl (eu_api_Pol _)) ?_
          refine q1 (.d (uapi_Pol x52)) ?_
          refine q1 (vl2 a1) ?_
          refine q1 (.d (eA8 (D.int .u16) a2)) ?_
          refine stepC (r := .tup [eL (some 8) (eA8 (D.int .u16)) r53.1, .bool r53.2]) (ArgsOk.dt (ArgsOk.dt (ArgsOk.dt ArgsOk.nil'))) (hself _ _ _ _ hr53) ?_
          refine q1 (.d (.tup [eL (some 8) (eA8 (D.int .u16)) r53.1, .bool r53.2])) ?_
          refine q1 (.d (eL (some 8) (eA8 (D.int .u16)) r53.1)) ?_
          refine q1 (vb r53.2) ?_
          refine q1 (.d (eL (some 8) (eA8 (D.int .u16)) r53.1)) ?_
          refine q1 (vb r53.2) ?_
          exact nR []
         refine NWp.seq ?_
         refine NWp.opsJ ⟨tab [(1, vl2 a1), (3, .d (.cptr (some 4) (uapi_Pol a0) 0)), (5, .d (.cptr (some 8) (eA8 (D.int .u16) a2) 0)), (17, .d (eL (some 8) (eA8 (D.int .u16)) y45)), (18, vi i46), (19, .d (eL (some 8) (eA8 (D.int .u16)) r53.1)), (143, vb (!r53.2))], stab [], 0⟩ ?_ ?_
         ·
          refine q1 (vb r53.2) ?_
          refine q1 (vb (!r53.2)) ?_
          exact nR []
         by_cases hc54 : (!r53.2) = true
         ·
          replace h := iteT hc54 h
          refine NWp.condT (t := (!r53.2)) rfl hc54 ?_
          refine NWp.opsJ ⟨tab [(6, .d (eL (some 8) (eA8 (D.int .u16)) ([] : List (A8 Int)))), (7, vb false)], stab [], 0⟩ ?_ ?_
          ·
           refine q1 (.d (eL (some 8) (eA8 (D.int .u16)) ([] : List (A8 Int)))) ?_
           refine q1 (vb false) ?_
           exact nR []
          obtain ⟨r55, kr55, hr⟩ := mapE (o := some (([] : List (A8 Int)), false)) (g := Br.ret) h
          subst hr
          have h := kr55
          have hh := Option.some.inj h
          subst hh
          refine NWp.ret ?_
          refine And.intro (fun hn => nomatch hn) ?_
          intro hq
          have hq := hq.symm
          subst hq
          show FQ _ _ _ _
          exact FQ.mkT (.inr rfl) (res_t (v := .d (eL (some 8) (eA8 (D.int .u16)) ([] : List (A8 Int)))) rfl (res_t (v := vb false) rfl rfl)) (RV.d (RV.d trivial))
         ·
          replace h := iteF hc54 h
          refine NWp.condF (t := (!r53.2)) rfl hc54 ?_
          refine NWp.skip ?_
          obtain ⟨r55, hr55, h⟩ := bindE h
          refine NWp.opsJ ⟨tab [(1, vl2 a1), (3, .d (.cptr (some 4) (uapi_Pol a0) 0)), (5, .d (.cptr (some 8) (eA8 (D.int .u16) a2) 0)), (17, .d (eL (some 8) (eA8 (D.int .u16)) r55)), (18, vi i46)], stab [], 0⟩ ?_ ?_
          ·
           refine q1 (.d (eL (some 8) (eA8 (D.int .u16)) y45)) ?_
           refine q1 (.d (eL (some 8) (eA8 (D.int .u16)) r53.1)) ?_
           refine stepC (r := eL (some 8) (eA8 (D.int .u16)) r55) (ArgsOk.dt (ArgsOk.dt ArgsOk.nil')) (c_ref07_union hr55) ?_
           refine q1 (.d (eL (some 8) (eA8 (D.int .u16)) r55)) ?_
           exact nR []
          refine NWp.opsJ ⟨tab [(1, vl2 a1), (3, .d (.cptr (some 4) (uapi_Pol a0) 0)), (5, .d (.cptr (some 8) (eA8 (D.int .u16) a2) 0)), (17, .d (eL (some 8) (eA8 (D.int .u16)) r55)), (18, vi i46), (149, vb (decide ((r55.length : Int) > 64)))], stab [], 0⟩ ?_ ?_
          ·
           refine q1 (.d (eL (some 8) (eA8 (D.int .u16)) r55)) ?_
           refine step (v := vi (r55.length : Int)) (st_len (xs := r55) (e := (eA8 (D.int .u16))) rfl) ?_
           refine q1 (vb (decide ((r55.length : Int) > 64))) ?_
           exact nR []
          by_cases hc56 : decide ((r55.length : Int) > 64) = true
          ·
           replace h := iteT hc56 h
           refine NWp.condT (t := decide ((r55.length : Int) > 64)) rfl hc56 ?_
           refine NWp.opsJ ⟨tab [(6, .d (eL (some 8) (eA8 (D.int .u16)) ([] : List (A8 Int)))), (7, vb false)], stab [], 0⟩ ?_ ?_
           ·
            refine q1 (.d (eL (some 8) (eA8 (D.int .u16)) ([] : List (A8 Int)))) ?_
            refine q1 (vb false) ?_
            exact nR []
           obtain ⟨r57, kr57, hr⟩ := mapE (o := some (([] : List (A8 Int)), false)) (g := Br.ret) h
           subst hr
           have h := kr57
           have hh := Option.some.inj h
           subst hh
           refine NWp.ret ?_
           refine And.intro (fun hn => nomatch hn) ?_
           intro hq
           have hq := hq.symm
           subst hq
           show FQ _ _ _ _
           exact FQ.mkT (.inr rfl) (res_t (v := .d (eL (some 8) (eA8 (D.int .u16)) ([] : List (A8 Int)))) rfl (res_t (v := vb false) rfl rfl)) (RV.d (RV.d trivial))
          ·
           replace h := iteF hc56 h
           refine NWp.condF (t := decide ((r55.length : Int) > 64)) rfl hc56 ?_
           refine NWp.skip ?_
           have hh := Option.some.inj h
           subst hh
           refine NWp.opsE ⟨tab [(1, vl2 a1), (3, .d (.cptr (some 4) (uapi_Pol a0) 0)), (5, .d (.cptr (some 8) (eA8 (D.int .u16) a2) 0)), (17, .d (eL (some 8) (eA8 (D.int .u16)) r55)), (18, vi (i46 + 1))], stab [], 0⟩ ?_ ?_
           ·
            refine q1 (vi i46) ?_
            refine step (v := vi (i46 + 1)) (st_inc (inc_ok hinv49 hgo48 hB47) rfl rfl) ?_
            refine q1 (vi (i46 + 1)) ?_
            exact nR []
           exact And.intro rfl rfl
        ·
         rintro i46 y45 hinv49 hgo48
         show NWp _ _ _ _ _ ⟨tab [(1, vl2 a1), (3, .d (.cptr (some 4) (uapi_Pol a0) 0)), (5, .d (.cptr (some 8) (eA8 (D.int .u16) a2) 0)), (17, .d (eL (some 8) (eA8 (D.int .u16)) y45)), (18, vi i46)], stab [], 0⟩
         have hc50 : ¬ (decide (i46 < (a0.Kids.length : Int)) = true) := fun hq => hgo48 (of_decide_eq_true hq)
         refine NWp.seq ?_
         refine NWp.opsJ ⟨tab [(1, vl2 a1), (3, .d (.cptr (some 4) (uapi_Pol a0) 0)), (5, .d (.cptr (some 8) (eA8 (D.int .u16) a2) 0)), (17, .d (eL (some 8) (eA8 (D.int .u16)) y45)), (18, vi i46), (128, vb (decide (i46 < (a0.Kids.length : Int))))], stab [], 0⟩ ?_ ?_
         ·
          refine q1 (vi i46) ?_
          refine q1 (.d (.cptr (some 4) (uapi_Pol a0) 3)) ?_
          refine q1 (vl0 a0.Kids) ?_
          refine step (v := vi (a0.Kids.length : Int)) (st_len (xs := a0.Kids) (e := eapi_Pol) rfl) ?_
          refine q1 (vb (decide (i46 < (a0.Kids.length : Int)))) ?_
          exact nR []
         refine NWp.condF (t := decide (i46 < (a0.Kids.length : Int))) rfl hc50 ?_
         refine NWp.norm (s0 := ⟨tab [(17, .d (eL (some 8) (eA8 (D.int .u16)) y45))], stab [], 0⟩) (nr []) ?_
         refine NWp.exit ?_
         exact And.intro rfl rfl
        ·
         intro r' hq
         subst hq
         exact Option.some.inj h
        rintro z57 rfl
        refine NWp.opsJ ⟨tab [(6, .d (eL (some 8) (eA8 (D.int .u16)) z57)), (7, vb true)], stab [], 0⟩ ?_ ?_
        ·
         refine q1 (.d (eL (some 8) (eA8 (D.int .u16)) z57)) ?_
         refine q1 (.d (eL (some 8) (eA8 (D.int .u16)) z57)) ?_
         refine q1 (vb true) ?_
         exact nR []
        have hh := Option.some.inj h
        subst hh
        refine NWp.ret ?_
        show FQ _ _ _ _
        exact FQ.mkT (.inr rfl) (res_t (v := .d (eL (some 8) (eA8 (D.int .u16)) z57)) rfl (res_t (v := vb true) rfl rfl)) (RV.d (RV.d trivial))

theorem c_ref07_run_f : ∀ (k : Nat) (a0 : api_Pol) (a1 : (List Int)) (a2 : (A8 Int)) (r : ((List (A8 Int)) × Bool)), ref07_run_f k a0 a1 a2 = some r → PCall Try.prog 75 [uapi_Pol a0, eL none (D.int .u16) a1, eA8 (D.int .u16) a2] (.tup [eL (some 8) (eA8 (D.int .u16)) r.1, .bool r.2])
 | 0, _, _, _, _, h => by cases h
 | k + 1, _, _, _, _, h => c_ref07_run_s (c_ref07_run_f k) h

theorem c_ref07_run {a0 : api_Pol} {a1 : (List Int)} {a2 : (A8 Int)} {r : ((List (A8 Int)) × Bool)} (h : ref07_run a0 a1 a2 = some r) : PCall Try.prog 75 [uapi_Pol a0, eL none (D.int .u16) a1, eA8 (D.int .u16) a2] (.tup [eL (some 8) (eA8 (D.int .u16)) r.1, .bool r.2]) := c_ref07_run_f FUEL _ _ _ _ h

theorem c_ref07_Make {a0 : api_Pol} {a1 : (List Int)} {a2 : (A8 Int)} {r : ((List (A8 Int)) × Int)} (h : ref07_Make a0 a1 a2 = some r) : PCall Try.prog 37 [uapi_Pol a0, eL none (D.int .u16) a1, eA8 (D.int .u16) a2] (.tup [eL (some 8) (eA8 (D.int .u16)) r.1, .int .i64 r.2]) := by
 refine PCall.introN ok37 (show 3 ≤ 23 by decide) ?_
 refine NWp.norm (s0 := ⟨tab [(0, .d (uapi_Pol a0)), (1, vl2 a1), (2, .d (eA8 (D.int .u16) a2))], stab [], 0⟩) (nr []) ?_
 refine NWp.opsJ ⟨tab [(1, vl2 a1), (3, .d (.cptr (some 4) (uapi_Pol a0) 0)), (5, .d (.cptr (some 8) (eA8 (D.int .u16) a2) 0))], stab [], 0⟩ ?_ ?_
 ·
  refine q1 (.d (.cptr (some 4) (uapi_Pol a0) 0)) ?_
  refine q1 (.d (.cptr (some 8) (eA8 (D.int .u16) a2) 0)) ?_
  refine q1 (.d (eL (some 8) (eA8 (D.int .u16)) ([] : List (A8 Int)))) ?_
  refine q1 (vi 0) ?_
  exact nR []
 refine NWp.seq ?_
 obtain ⟨r1, hr1, h⟩ := bindE h
 refine NWp.opsJ ⟨tab [(1, vl2 a1), (3, .d (.cptr (some 4) (uapi_Pol a0) 0)), (5, .d (.cptr (some 8) (eA8 (D.int .u16) a2) 0)), (12, vb (!r1))], stab [], 0⟩ ?_ ?_
 ·
  refine q1 (.d (uapi_Pol a0)) ?_
  refine stepC (r := .bool r1) (ArgsOk.dt ArgsOk.nil') (c_ref07_Right hr1) ?_
  refine q1 (vb (!r1)) ?_
  exact nR []
 by_cases hc2 : (!r1) = true
 ·
  replace h := iteT hc2 h
  refine NWp.condT (t := (!r1)) rfl hc2 ?_
  refine NWp.opsJ ⟨tab [(6, .d (eL (some 8) (eA8 (D.int .u16)) ([] : List (A8 Int)))), (7, vi 11)], stab [], 0⟩ ?_ ?_
  ·
   refine q1 (.d (eL (some 8) (eA8 (D.int .u16)) ([] : List (A8 Int)))) ?_
   refine q1 (vi 11) ?_
   exact nR []
  have hh := Option.some.inj h
  subst hh
  refine NWp.ret ?_
  show FQ _ _ _ _
  exact FQ.mkT (.inr rfl) (res_t (v := .d (eL (some 8) (eA8 (D.int .u16)) ([] : List (A8 Int)))) rfl (res_t (v := vi 11) rfl rfl)) (RV.d (RV.d trivial))
 ·
  replace h := iteF hc2 h
  refine NWp.condF (t := (!r1)) rfl hc2 ?_
  refine NWp.skip ?_
  obtain ⟨r3, hr3, h⟩ := bindE h
  refine NWp.opsJ ⟨tab [(8, .d (eL (some 8) (eA8 (D.int .u16)) r3.1)), (9, vb r3.2)], stab [], 0⟩ ?_ ?_
  ·
   refine q1 (.d (uapi_Pol a0)) ?_
   refine q1 (vl2 a1) ?_
   refine q1 (.d (eA8 (D.int .u16) a2)) ?_
   refine stepC (r := .tup [eL (some 8) (eA8 (D.int .u16)) r3.1, .bool r3.2]) (ArgsOk.dt (ArgsOk.dt (ArgsOk.dt ArgsOk.nil'))) (c_ref07_run hr3) ?_
   refine q1 (.d (.tup [eL (some 8) (eA8 (D.int .u16)) r3.1, .bool r3.2])) ?_
   refine q1 (.d (eL (some 8) (eA8 (D.int .u16)) r3.1)) ?_
   refine q1 (vb r3.2) ?_
   refine q1 (.d (eL (some 8) (eA8 (D.int .u16)) r3.1)) ?_
   refine q1 (vb r3.2) ?_
   exact nR []
  refine NWp.seq ?_
  refine NWp.opsJ ⟨tab [(8, .d (eL (some 8) (eA8 (D.int .u16)) r3.1)), (21, vb (!r3.2))], stab [], 0⟩ ?_ ?_
  ·
   refine q1 (vb r3.2) ?_
   refine q1 (vb (!r3.2)) ?_
   exact nR []
  by_cases hc4 : (!r3.2) = true
  ·
   replace h := iteT hc4 h
   refine NWp.condT (t := (!r3.2)) rfl hc4 ?_
   refine NWp.opsJ ⟨tab [(6, .d (eL (some 8) (eA8 (D.int .u16)) ([] : List (A8 Int)))), (7, vi 24)], stab [], 0⟩ ?_ ?_
   ·
    refine q1 (.d (eL (some 8) (eA8 (D.int .u16)) ([] : List (A8 Int)))) ?_
    refine q1 (vi 24) ?_
    exact nR []
   have hh := Option.some.inj h
   subst hh
   refine NWp.ret ?_
   show FQ _ _ _ _
   exact FQ.mkT (.inr rfl) (res_t (v := .d (eL (some 8) (eA8 (D.int .u16)) ([] : List (A8 Int)))) rfl (res_t (v := vi 24) rfl rfl)) (RV.d (RV.d trivial))
  ·
   replace h := iteF hc4 h
   refine NWp.condF (t := (!r3.2)) rfl hc4 ?_
   refine NWp.skip ?_
   refine NWp.opsJ ⟨tab [(6, .d (eL (some 8) (eA8 (D.int .u16)) r3.1)), (7, vi 0)], stab [], 0⟩ ?_ ?_
   ·
    refine q1 (.d (eL (some 8) (eA8 (D.int .u16)) r3.1)) ?_
    refine q1 (.d (eL (some 8) (eA8 (D.int .u16)) r3.1)) ?_
    refine q1 (vi 0) ?_
    exact nR []
   have hh := Option.some.inj h
   subst hh
   refine NWp.ret ?_
   show FQ _ _ _ _
   exact FQ.mkT (.inr rfl) (res_t (v := .d (eL (some 8) (eA8 (D.int .u16)) r3.1)) rfl (res_t (v := vi 0) rfl rfl)) (RV.d (RV.d trivial))

theorem c_ref01_Same {a0 : (List (A8 Int))} {a1 : (List (A8 Int))} {r : Bool} (h : ref01_Same a0 a1 = some r) : PCall Try.prog 39 [eL (some 8) (eA8 (D.int .u16)) a0, eL (some 8) (eA8 (D.int .u16)) a1] (.bool r) := by
 refine PCall.introN ok39 (show 2 ≤ 26 by decide) ?_
 refine NWp.norm (s0 := ⟨tab [(0, .d (eL (some 8) (eA8 (D.int .u16)) a0)), (1, .d (eL (some 8) (eA8 (D.int .u16)) a1))], stab [], 0⟩) (nr []) ?_
 refine NWp.opsJ ⟨tab [(0, .d (eL (some 8) (eA8 (D.int .u16)) a0)), (1, .d (eL (some 8) (eA8 (D.int .u16)) a1))], stab [], 0⟩ ?_ ?_
 ·
  refine q1 (vb false) ?_
  exact nR []
 refine NWp.seq ?_
 refine NWp.opsJ ⟨tab [(0, .d (eL (some 8) (eA8 (D.int .u16)) a0)), (1, .d (eL (some 8) (eA8 (D.int .u16)) a1)), (10, vb ((a0.length : Int) != (a1.length : Int)))], stab [], 0⟩ ?_ ?_
 ·
  refine q1 (.d (eL (some 8) (eA8 (D.int .u16)) a0)) ?_
  refine step (v := vi (a0.length : Int)) (st_len (xs := a0) (e := (eA8 (D.int .u16))) rfl) ?_
  refine q1 (.d (eL (some 8) (eA8 (D.int .u16)) a1)) ?_
  refine step (v := vi (a1.length : Int)) (st_len (xs := a1) (e := (eA8 (D.int .u16))) rfl) ?_
  refine q1 (vb ((a0.length : Int) != (a1.length : Int))) ?_
  exact nR []
 by_cases hc1 : ((a0.length : Int) != (a1.length : Int)) = true
 ·
  replace h := iteT hc1 h
  refine NWp.condT (t := ((a0.length : Int) != (a1.length : Int))) rfl hc1 ?_
  refine NWp.opsJ ⟨tab [(4, vb false)], stab [], 0⟩ ?_ ?_
  ·
   refine q1 (vb false) ?_
   exact nR []
  have hh := Option.some.inj h
  subst hh
  refine NWp.ret ?_
  show FQ _ _ _ _
  exact FQ.mk1 (.inr rfl) (res_t (v := vb false) rfl rfl) (RV.d trivial)
 ·
  replace h := iteF hc1 h
  refine NWp.condF (t := ((a0.length : Int) != (a1.length : Int))) rfl hc1 ?_
  refine NWp.skip ?_
  refine NWp.seq ?_
  refine NWp.opsJ ⟨tab [(0, .d (eL (some 8) (eA8 (D.int .u16)) a0)), (1, .d (eL (some 8) (eA8 (D.int .u16)) a1)), (5, vi 0)], stab [], 0⟩ ?_ ?_
  ·
   refine q1 (vi 0) ?_
   exact nR []
  obtain ⟨q11, hl, h⟩ := bindE h
  refine NWp.block ?_
  refine loop_forR (cntU (a0.length : Int)) (fun (i2 : Int) (qq : Unit) => ⟨tab [(0, .d (eL (some 8) (eA8 (D.int .u16)) a0)), (1, .d (eL (some 8) (eA8 (D.int .u16)) a1)), (5, vi i2)], stab [], 0⟩) 0 (fun (qq : Unit) => ⟨tab [], stab [], 0⟩) Low low_step (r := r) hl (by unfold Low; omega) ?_ ?_ ?_ ?_
  ·
   rintro i2 ⟨⟩ xr7 hinv5 hgo4 h
   show NWp _ _ _ _ _ ⟨tab [(0, .d (eL (some 8) (eA8 (D.int .u16)) a0)), (1, .d (eL (some 8) (eA8 (D.int .u16)) a1)), (5, vi i2)], stab [], 0⟩
   have hc6 : decide (i2 < (a0.length : Int)) = true := decide_eq_true hgo4
   refine NWp.seq ?_
   refine NWp.opsJ ⟨tab [(0, .d (eL (some 8) (eA8 (D.int .u16)) a0)), (1, .d (eL (some 8) (eA8 (D.int .u16)) a1)), (5, vi i2), (13, vi (a0.length : Int)), (14, vb (decide (i2 < (a0.length : Int))))], stab [], 0⟩ ?_ ?_
   ·
    refine q1 (vi i2) ?_
    refine q1 (.d (eL (some 8) (eA8 (D.int .u16)) a0)) ?_
    refine step (v := vi (a0.length : Int)) (st_len (xs := a0) (e := (eA8 (D.int .u16))) rfl) ?_
    refine q1 (vb (decide (i2 < (a0.length : Int)))) ?_
    exact nR []
   refine NWp.rng 13 rfl fun hB3 => ?_
   refine NWp.condT (t := decide (i2 < (a0.length : Int))) rfl hc6 ?_
   refine NWp.skip ?_
   refine NWp.seq ?_
   refine NWp.block ?_
   obtain ⟨x8, hx8, h⟩ := bindE h
   obtain ⟨x9, hx9, h⟩ := bindE h
   refine NWp.opsJ ⟨tab [(0, .d (eL (some 8) (eA8 (D.int .u16)) a0)), (1, .d (eL (some 8) (eA8 (D.int .u16)) a1)), (5, vi i2), (25, vb (!(x8 == x9)))], stab [], 0⟩ ?_ ?_
   ·
    refine q1 (.d (eL (some 8) (eA8 (D.int .u16)) a0)) ?_
    refine q1 (vi i2) ?_
    refine step (v := .d (.cptr (some 8) (eA8 (D.int .u16) x8) 0)) (st_iaddr (xs := a0) (e := (eA8 (D.int .u16))) hx8 rfl rfl) ?_
    refine q1 (.d (eA8 (D.int .u16) x8)) ?_
    refine q1 (.d (eL (some 8) (eA8 (D.int .u16)) a1)) ?_
    refine q1 (vi i2) ?_
    refine step (v := .d (.cptr (some 8) (eA8 (D.int .u16) x9) 0)) (st_iaddr (xs := a1) (e := (eA8 (D.int .u16))) hx9 rfl rfl) ?_
    refine q1 (.d (eA8 (D.int .u16) x9)) ?_
    refine step (v := vb (!(x8 == x9))) (st_eqS (neg := true) rfl rfl (eqS_A8_Int x8 x9)) ?_
    exact nR []
   by_cases hc10 : (!(x8 == x9)) = true
   ·
    replace h := iteT hc10 h
    refine NWp.condT (t := (!(x8 == x9))) rfl hc10 ?_
    refine NWp.opsJ ⟨tab [(4, vb false)], stab [], 0⟩ ?_ ?_
    ·
     refine q1 (vb false) ?_
     exact nR []
    obtain ⟨r11, kr11, hr⟩ := mapE (o := some false) (g := Br.ret) h
    subst hr
    have h := kr11
    have hh := Option.some.inj h
    subst hh
    refine NWp.ret ?_
    refine And.intro (fun hn => nomatch hn) ?_
    intro hq
    have hq := hq.symm
    subst hq
    show FQ _ _ _ _
    exact FQ.mk1 (.inr rfl) (res_t (v := vb false) rfl rfl) (RV.d trivial)
   ·
    replace h := iteF hc10 h
    refine NWp.condF (t := (!(x8 == x9))) rfl hc10 ?_
    refine NWp.skip ?_
    have hh := Option.some.inj h
    subst hh
    refine NWp.opsE ⟨tab [(0, .d (eL (some 8) (eA8 (D.int .u16)) a0)), (1, .d (eL (some 8) (eA8 (D.int .u16)) a1)), (5, vi (i2 + 1))], stab [], 0⟩ ?_ ?_
    ·
     refine q1 (vi i2) ?_
     refine step (v := vi (i2 + 1)) (st_inc (inc_ok hinv5 hgo4 hB3) rfl rfl) ?_
     refine q1 (vi (i2 + 1)) ?_
     exact nR []
    exact And.intro rfl rfl
  ·
   rintro i2 ⟨⟩ hinv5 hgo4
   show NWp _ _ _ _ _ ⟨tab [(0, .d (eL (some 8) (eA8 (D.int .u16)) a0)), (1, .d (eL (some 8) (eA8 (D.int .u16)) a1)), (5, vi i2)], stab [], 0⟩
   have hc6 : ¬ (decide (i2 < (a0.length : Int)) = true) := fun hq => hgo4 (of_decide_eq_true hq)
   refine NWp.seq ?_
   refine NWp.opsJ ⟨tab [(0, .d (eL (some 8) (eA8 (D.int .u16)) a0)), (1, .d (eL (some 8) (eA8 (D.int .u16)) a1)), (5, vi i2), (14, vb (decide (i2 < (a0.length : Int))))], stab [], 0⟩ ?_ ?_
   ·
    refine q1 (vi i2) ?_
    refine q1 (.d (eL (some 8) (eA8 (D.int .u16)) a0)) ?_
    refine step (v := vi (a0.length : Int)) (st_len (xs := a0) (e := (eA8 (D.int .u16))) rfl) ?_
    refine q1 (vb (decide (i2 < (a0.length : Int)))) ?_
    exact nR []
   refine NWp.condF (t := decide (i2 < (a0.length : Int))) rfl hc6 ?_
   refine NWp.norm (s0 := ⟨tab [], stab [], 0⟩) (nr []) ?_
   refine NWp.exit ?_
   exact And.intro rfl rfl
  ·
   intro r' hq
   subst hq
   exact Option.some.inj h
  rintro ⟨⟩ rfl
  refine NWp.opsJ ⟨tab [(4, vb true)], stab [], 0⟩ ?_ ?_
  ·
   refine q1 (vb true) ?_
   exact nR []
  have hh := Option.some.inj h
  subst hh
  refine NWp.ret ?_
  show FQ _ _ _ _
  exact FQ.mk1 (.inr rfl) (res_t (v := vb true) rfl rfl) (RV.d trivial)

theorem c_law28_TrimKeeps {a0 : (List law05_Step)} {a1 : (List Int)} {a2 : (A8 Int)} {r : Bool} (h : law28_TrimKeeps a0 a1 a2 = some r) : PCall Try.prog 9 [eL (some 4) elaw05_Step a0, eL none (D.int .u16) a1, eA8 (D.int .u16) a2] (.bool r) := by
 refine PCall.introN ok9 (show 3 ≤ 56 by decide) ?_
 refine NWp.norm (s0 := ⟨tab [(0, vl3 a0), (1, vl2 a1), (2, .d (eA8 (D.int .u16) a2))], stab [], 0⟩) (nr []) ?_
 refine NWp.opsJ ⟨tab [(0, vl3 a0), (1, vl2 a1), (5, .d (.cptr (some 8) (eA8 (D.int .u16) a2) 0))], stab [], 0⟩ ?_ ?_
 ·
  refine q1 (.d (.cptr (some 8) (eA8 (D.int .u16) a2) 0)) ?_
  refine q1 (vb false) ?_
  exact nR []
 refine NWp.seq ?_
 obtain ⟨r1, hr1, h⟩ := bindE h
 refine NWp.opsJ ⟨tab [(0, vl3 a0), (1, vl2 a1), (5, .d (.cptr (some 8) (eA8 (D.int .u16) a2) 0)), (14, vb (!r1))], stab [], 0⟩ ?_ ?_
 ·
  refine stepC (r := .bool r1) ArgsOk.nil' (c_law28_awake hr1) ?_
  refine q1 (vb (!r1)) ?_
  exact nR []
 by_cases hc2 : (!r1) = true
 ·
  replace h := iteT hc2 h
  refine NWp.condT (t := (!r1)) rfl hc2 ?_
  refine NWp.opsJ ⟨tab [(6, vb false)], stab [], 0⟩ ?_ ?_
  ·
   refine q1 (vb false) ?_
   exact nR []
  have hh := Option.some.inj h
  subst hh
  refine NWp.ret ?_
  show FQ _ _ _ _
  exact FQ.mk1 (.inr rfl) (res_t (v := vb false) rfl rfl) (RV.d trivial)
 ·
  replace h := iteF hc2 h
  refine NWp.condF (t := (!r1)) rfl hc2 ?_
  refine NWp.skip ?_
  obtain ⟨r3, hr3, h⟩ := bindE h
  refine NWp.opsJ ⟨tab [(1, vl2 a1), (5, .d (.cptr (some 8) (eA8 (D.int .u16) a2) 0)), (7, .ptr 0 0 0), (8, vb r3.2)], stab [(0, .var [vi r3.1.Op, vi r3.1.F, .d (.int .u16 r3.1.N), vl0 r3.1.Kids])], 1⟩ ?_ ?_
  ·
   refine q1 (vl3 a0) ?_
   refine stepC (r := .tup [uapi_Pol r3.1, .bool r3.2]) (ArgsOk.dt ArgsOk.nil') (c_law05_Pile hr3) ?_
   refine q1 (.d (.tup [uapi_Pol r3.1, .bool r3.2])) ?_
   refine q1 (.d (uapi_Pol r3.1)) ?_
   refine q1 (vb r3.2) ?_
   refine step (v := .ptr 0 0 0) (σ' := (upd (stab []) 0 (some (.var [vi 0, vi 0, .d (.int .u16 0), vl0 []])))) (n' := 1) rfl ?_
   refine step (v := V.undef) (σ' := (upd (upd (stab []) 0 (some (.var [vi 0, vi 0, .d (.int .u16 0), vl0 []]))) 0 (some (.var [vi r3.1.Op, vi r3.1.F, .d (.int .u16 r3.1.N), vl0 r3.1.Kids])))) (n' := 1) rfl ?_
   refine q1 (vb r3.2) ?_
   exact nR [0]
  refine NWp.seq ?_
  refine NWp.opsJ ⟨tab [(1, vl2 a1), (5, .d (.cptr (some 8) (eA8 (D.int .u16) a2) 0)), (7, .ptr 0 0 0), (26, vb ((!r3.2) || (decide ((a1.length : Int) > 6))))], stab [(0, .var [vi r3.1.Op, vi r3.1.F, .d (.int .u16 r3.1.N), vl0 r3.1.Kids])], 1⟩ ?_ ?_
  ·
   refine q1 (vb r3.2) ?_
   refine q1 (vb (!r3.2)) ?_
   refine q1 (vb (!r3.2)) ?_
   by_cases hg4 : (!r3.2) = true
   ·
    refine qX (!r3.2) (by rw [hg4]; decide) ?_
    refine qX (!r3.2) (by rw [hg4]; decide) ?_
    refine qX (!r3.2) (by rw [hg4]; decide) ?_
    refine step (v := vb true) (st_pickT (b := (!r3.2)) rfl hg4 rfl) ?_
    exact RunOps.nil' (nm [0] ⟨.d _, .d _, .pt 0, .eq (by first | (simp [hg4]; done) | (simp_all; done) | grind), trivial⟩ ⟨⟨show 0 < 1 by decide, _, rfl, .vars ⟨.d _, .d _, .d _, .d _, trivial⟩⟩, trivial⟩)
   ·
    refine qG (!r3.2) (Bool.eq_false_iff.2 hg4) ?_
    refine q1 (vl2 a1) ?_
    refine qG (!r3.2) (Bool.eq_false_iff.2 hg4) ?_
    refine step (v := vi (a1.length : Int)) (st_len (xs := a1) (e := (D.int .u16)) rfl) ?_
    refine qG (!r3.2) (Bool.eq_false_iff.2 hg4) ?_
    refine q1 (vb (decide ((a1.length : Int) > 6))) ?_
    refine step (v := vb (decide ((a1.length : Int) > 6))) (st_pickF (b := (!r3.2)) rfl hg4 rfl) ?_
    exact RunOps.nil' (nm [0] ⟨.d _, .d _, .pt 0, .eq (by first | (simp [hg4]; done) | (simp_all; done) | grind), trivial⟩ ⟨⟨show 0 < 1 by decide, _, rfl, .vars ⟨.d _, .d _, .d _, .d _, trivial⟩⟩, trivial⟩)
  by_cases hc5 : ((!r3.2) || (decide ((a1.length : Int) > 6))) = true
  ·
   replace h := iteT hc5 h
   refine NWp.condT (t := ((!r3.2) || (decide ((a1.length : Int) > 6)))) rfl hc5 ?_
   refine NWp.opsJ ⟨tab [(6, vb true)], stab [], 0⟩ ?_ ?_
   ·
    refine q1 (vb true) ?_
    exact nR []
   have hh := Option.some.inj h
   subst hh
   refine NWp.ret ?_
   show FQ _ _ _ _
   exact FQ.mk1 (.inr rfl) (res_t (v := vb true) rfl rfl) (RV.d trivial)
  ·
   replace h := iteF hc5 h
   refine NWp.condF (t := ((!r3.2) || (decide ((a1.length : Int) > 6)))) rfl hc5 ?_
   refine NWp.skip ?_
   obtain ⟨r6, hr6, h⟩ := bindE h
   refine NWp.opsJ ⟨tab [(1, vl2 a1), (5, .d (.cptr (some 8) (eA8 (D.int .u16) a2) 0)), (7, .ptr 0 0 0), (9, .d (eL (some 8) (eA8 (D.int .u16)) r6.1)), (10, vi r6.2)], stab [(0, .var [vi r3.1.Op, vi r3.1.F, .d (.int .u16 r3.1.N), vl0 r3.1.Kids])], 1⟩ ?_ ?_
   ·
    refine step (v := .d (uapi_Pol r3.1)) (st_ldV (ds := [.int .i64 r3.1.Op, .int .i64 r3.1.F, .int .u16 r3.1.N, eL (some 4) eapi_Pol r3.1.Kids]) rfl rfl (show 4 ≤ 4 by decide) rfl) ?_
    refine q1 (vl2 a1) ?_
    refine q1 (.d (eA8 (D.int .u16) a2)) ?_
    refine stepC (r := .tup [eL (some 8) (eA8 (D.int .u16)) r6.1, .int .i64 r6.2]) (ArgsOk.dt (ArgsOk.dt (ArgsOk.dt ArgsOk.nil'))) (c_ref07_Make hr6) ?_
    refine q1 (.d (.tup [eL (some 8) (eA8 (D.int .u16)) r6.1, .int .i64 r6.2])) ?_
    refine q1 (.d (eL (some 8) (eA8 (D.int .u16)) r6.1)) ?_
    refine q1 (vi r6.2) ?_
    refine q1 (.d (eL (some 8) (eA8 (D.int .u16)) r6.1)) ?_
    refine q1 (vi r6.2) ?_
    exact nR [0]
   obtain ⟨r7, hr7, h⟩ := bindE h
   obtain ⟨r8, hr8, h⟩ := bindE h
   refine NWp.opsJ ⟨tab [(9, .d (eL (some 8) (eA8 (D.int .u16)) r6.1)), (10, vi r6.2), (11, .d (eL (some 8) (eA8 (D.int .u16)) r8.1)), (12, vi r8.2)], stab [], 0⟩ ?_ ?_
   ·
    refine step (v := .d (uapi_Pol r3.1)) (st_ldV (ds := [.int .i64 r3.1.Op, .int .i64 r3.1.F, .int .u16 r3.1.N, eL (some 4) eapi_Pol r3.1.Kids]) rfl rfl (show 4 ≤ 4 by decide) rfl) ?_
    refine stepC (r := uapi_Pol r7) (ArgsOk.dt ArgsOk.nil') (c_trim_Trim hr7) ?_
    refine q1 (vl2 a1) ?_
    refine q1 (.d (eA8 (D.int .u16) a2)) ?_
    refine stepC (r := .tup [eL (some 8) (eA8 (D.int .u16)) r8.1, .int .i64 r8.2]) (ArgsOk.dt (ArgsOk.dt (ArgsOk.dt ArgsOk.nil'))) (c_ref07_Make hr8) ?_
    refine q1 (.d (.tup [eL (some 8) (eA8 (D.int .u16)) r8.1, .int .i64 r8.2])) ?_
    refine q1 (.d (eL (some 8) (eA8 (D.int .u16)) r8.1)) ?_
    refine q1 (vi r8.2) ?_
    refine q1 (.d (eL (some 8) (eA8 (D.int .u16)) r8.1)) ?_
    refine q1 (vi r8.2) ?_
    exact nR []
   refine NWp.seq ?_
   refine NWp.opsJ ⟨tab [(9, .d (eL (some 8) (eA8 (D.int .u16)) r6.1)), (10, vi r6.2), (11, .d (eL (some 8) (eA8 (D.int .u16)) r8.1)), (12, vi r8.2), (47, vb ((r6.2 == 24) || (r8.2 == 24)))], stab [], 0⟩ ?_ ?_
   ·
    refine q1 (vi r6.2) ?_
    refine q1 (vb (r6.2 == 24)) ?_
    refine q1 (vb (r6.2 == 24)) ?_
    by_cases hg9 : (r6.2 == 24) = true
    ·
     refine qX (r6.2 == 24) (by rw [hg9]; decide) ?_
     refine qX (r6.2 == 24) (by rw [hg9]; decide) ?_
     refine step (v := vb true) (st_pickT (b := (r6.2 == 24)) rfl hg9 rfl) ?_
     exact RunOps.nil' (nm [] ⟨.d _, .d _, .d _, .d _, .eq (by first | (simp [hg9]; done) | (simp_all; done) | grind), trivial⟩ trivial)
    ·
     refine qG (r6.2 == 24) (Bool.eq_false_iff.2 hg9) ?_
     refine q1 (vi r8.2) ?_
     refine qG (r6.2 == 24) (Bool.eq_false_iff.2 hg9) ?_
     refine q1 (vb (r8.2 == 24)) ?_
     refine step (v := vb (r8.2 == 24)) (st_pickF (b := (r6.2 == 24)) rfl hg9 rfl) ?_
     exact RunOps.nil' (nm [] ⟨.d _, .d _, .d _, .d _, .eq (by first | (simp [hg9]; done) | (simp_all; done) | grind), trivial⟩ trivial)
   by_cases hc10 : ((r6.2 == 24) || (r8.2 == 24)) = true
   ·
    replace h := iteT hc10 h
    refine NWp.condT (t := ((r6.2 == 24) || (r8.2 == 24))) rfl hc10 ?_
    refine NWp.opsJ ⟨tab [(6, vb true)], stab [], 0⟩ ?_ ?_
    ·
     refine q1 (vb true) ?_
     exact nR []
    have hh := Option.some.inj h
    subst hh
    refine NWp.ret ?_
    show FQ _ _ _ _
    exact FQ.mk1 (.inr rfl) (res_t (v := vb true) rfl rfl) (RV.d trivial)
   ·
    replace h := iteF hc10 h
    refine NWp.condF (t := ((r6.2 == 24) || (r8.2 == 24))) rfl hc10 ?_
    refine NWp.skip ?_
    obtain ⟨y13, hv, h⟩ := bindE h
    refine NWp.opsJ ⟨tab [(6, vb y13)], stab [], 0⟩ ?_ ?_
    ·
     refine q1 (vi r6.2) ?_
     refine q1 (vi r8.2) ?_
     refine q1 (vb (r6.2 == r8.2)) ?_
     refine q1 (vb (r6.2 == r8.2)) ?_
     by_cases hg11 : (r6.2 == r8.2) = true
     ·
      replace hv := iteT hg11 hv
      obtain ⟨r12, hr12, hv⟩ := bindE hv
      refine qG (r6.2 == r8.2) hg11 ?_
      refine q1 (.d (eL (some 8) (eA8 (D.int .u16)) r6.1)) ?_
      refine qG (r6.2 == r8.2) hg11 ?_
      refine q1 (.d (eL (some 8) (eA8 (D.int .u16)) r8.1)) ?_
      refine qG (r6.2 == r8.2) hg11 ?_
      refine stepC (r := .bool r12) (ArgsOk.dt (ArgsOk.dt ArgsOk.nil')) (c_ref01_Same hr12) ?_
      refine step (v := vb r12) (st_pickT (b := (r6.2 == r8.2)) rfl hg11 rfl) ?_
      refine q1 (vb r12) ?_
      have hh := Option.some.inj hv
      subst hh
      exact nR []
     ·
      replace hv := iteF hg11 hv
      refine qX (r6.2 == r8.2) hg11 ?_
      refine qX (r6.2 == r8.2) hg11 ?_
      refine qX (r6.2 == r8.2) hg11 ?_
      refine step (v := vb false) (st_pickF (b := (r6.2 == r8.2)) rfl hg11 rfl) ?_
      refine q1 (vb false) ?_
      have hh := Option.some.inj hv
      subst hh
      exact nR []
    have hh := Option.some.inj h
    subst hh
    refine NWp.ret ?_
    show FQ _ _ _ _
    exact FQ.mk1 (.inr rfl) (res_t (v := vb y13) rfl rfl) (RV.d trivial)


end Go.AM
