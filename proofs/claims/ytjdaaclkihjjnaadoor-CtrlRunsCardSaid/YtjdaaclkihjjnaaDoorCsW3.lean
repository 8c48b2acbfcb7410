import Derived.Test.YtjdaaclkihjjnaaDoorCsW2
/-  What they are in the program: walks. -/
set_option linter.unusedVariables false
set_option linter.unusedSimpArgs false
namespace Go.AM
open Go Go.RowKit Go.Proofs

attribute [local irreducible] RunOps RunOpsL

theorem c_law18_CtrlRuns {a0 : api_Program} {a1 : Int} {a2 : (List law18_Act)} {r : Bool} (h : law18_CtrlRuns a0 a1 a2 = some r) : PCall Tryd.prog 3 [eapi_Program a0, .int .i64 a1, eL (some 4) elaw18_Act a2] (.bool r) := by
 refine PCall.introN ok3 (show 3 ≤ 175 by decide) ?_
 refine NWp.norm (s0 := ⟨tab [(0, vs2 a0), (1, vi a1), (2, vl5 a2)], stab [], 0⟩) (nr []) ?_
 refine NWp.opsJ ⟨tab [(1, vi a1), (2, vl5 a2), (3, .ptr 0 0 0)], stab [(0, .var [vl4 a0.Init, vi a0.Pol.Op, vi a0.Pol.F, vh a0.Pol.N, vl8 a0.Pol.Kids, vl7 a0.Rules])], 1⟩ ?_ ?_
 ·
  refine step (v := .ptr 0 0 0) (σ' := (upd (stab []) 0 (some (.var [vl4 a0.Init, vi a0.Pol.Op, vi a0.Pol.F, vh a0.Pol.N, vl8 a0.Pol.Kids, vl7 a0.Rules])))) (n' := 1) rfl ?_
  refine q1 _ ?_
  exact nR [0]
 refine NWp.seq ?_
 obtain ⟨r1, hr1, h⟩ := bindE h
 refine NWp.opsJ ⟨tab [(1, vi a1), (2, vl5 a2), (3, .ptr 0 0 0), (25, vb (!r1))], stab [(0, .var [vl4 a0.Init, vi a0.Pol.Op, vi a0.Pol.F, vh a0.Pol.N, vl8 a0.Pol.Kids, vl7 a0.Rules])], 1⟩ ?_ ?_
 ·
  refine stepC (r := .bool r1) ArgsOk.nil' (c_law18_awake hr1) ?_
  refine q1 _ ?_
  exact nR [0]
 by_cases hc2 : (!r1) = true
 ·
  replace h := iteT hc2 h
  refine NWp.condT (t := (!r1)) rfl hc2 ?_
  refine NWp.opsJ ⟨tab [(6, vb false)], stab [], 0⟩ ?_ ?_
  ·
   refine q1 _ ?_
   exact nR []
  have hh := Option.some.inj h
  subst hh
  refine NWp.ret ?_
  show FQ _ _ _ _
  exact FQ.mk1 (.inr rfl) (res_t (v := vb false) rfl rfl) (RV.d trivial)
 ·
  replace h := iteF hc2 h
  refine NWp.condF (t := (!r1)) rfl hc2 ?_
  refine NWp.skip ?_
  refine NWp.opsJ ⟨tab [(1, vi a1), (2, vl5 a2), (3, .ptr 0 0 0)], stab [(0, .var [vl4 a0.Init, vi 0, vi 0, vh 0, vl8 [], vl7 a0.Rules])], 1⟩ ?_ ?_
  ·
   refine step (v := .d (uapi_Pol (api_Pol.mk 0 0 0 []))) (st_build (ds := [.int .i64 0, .int .i64 0, .int .u16 0, eL (some 4) eapi_Pol []]) rfl) ?_
   refine q1 _ ?_
   refine step (v := V.undef) (σ' := (upd (stab [(0, .var [vl4 a0.Init, vi a0.Pol.Op, vi a0.Pol.F, vh a0.Pol.N, vl8 a0.Pol.Kids, vl7 a0.Rules])]) 0 (some (.var [vl4 a0.Init, vi 0, vi 0, vh 0, vl8 [], vl7 a0.Rules])))) (n' := 1) rfl ?_
   exact nR [0]
  refine NWp.seq ?_
  obtain ⟨r3, hr3, h⟩ := bindE h
  refine NWp.opsJ ⟨tab [(1, vi a1), (2, vl5 a2), (3, .ptr 0 0 0), (35, vb ((!r3) || (decide ((a2.length : Int) > 60))))], stab [(0, .var [vl4 a0.Init, vi 0, vi 0, vh 0, vl8 [], vl7 a0.Rules])], 1⟩ ?_ ?_
  ·
   refine step (v := vs2 (api_Program.mk a0.Init (api_Pol.mk 0 0 0 []) a0.Rules)) (st_ldV (ds := [eL none (D.int .u16) a0.Init, .int .i64 0, .int .i64 0, .int .u16 0, eL (some 4) eapi_Pol [], eL (some 3) eapi_Rule a0.Rules]) rfl rfl (show 6 ≤ 6 by decide) rfl) ?_
   refine stepC (r := .bool r3) (ArgsOk.dt ArgsOk.nil') (c_law11_Small hr3) ?_
   iterate 2 refine q1 _ ?_
   by_cases hg4 : (!r3) = true
   ·
    iterate 3 refine qX (!r3) (by rw [hg4]; decide) ?_
    refine step (v := vb true) (st_pickT (b := (!r3)) rfl hg4 rfl) ?_
    exact RunOps.nil' (nm [0] ⟨.d _, .d _, .pt 0, .eq (by first | (simp [hg4]; done) | (simp_all; done) | grind), trivial⟩ ⟨⟨show 0 < 1 by decide, _, rfl, .vars ⟨.d _, .d _, .d _, .d _, .d _, .d _, trivial⟩⟩, trivial⟩)
   ·
    refine qG (!r3) (Bool.eq_false_iff.2 hg4) ?_
    refine q1 _ ?_
    refine qG (!r3) (Bool.eq_false_iff.2 hg4) ?_
    refine step (v := vi (a2.length : Int)) (st_len (xs := a2) (e := elaw18_Act) rfl) ?_
    refine qG (!r3) (Bool.eq_false_iff.2 hg4) ?_
    refine q1 _ ?_
    refine step (v := vb (decide ((a2.length : Int) > 60))) (st_pickF (b := (!r3)) rfl hg4 rfl) ?_
    exact RunOps.nil' (nm [0] ⟨.d _, .d _, .pt 0, .eq (by first | (simp [hg4]; done) | (simp_all; done) | grind), trivial⟩ ⟨⟨show 0 < 1 by decide, _, rfl, .vars ⟨.d _, .d _, .d _, .d _, .d _, .d _, trivial⟩⟩, trivial⟩)
  by_cases hc5 : ((!r3) || (decide ((a2.length : Int) > 60))) = true
  ·
   replace h := iteT hc5 h
   refine NWp.condT (t := ((!r3) || (decide ((a2.length : Int) > 60)))) rfl hc5 ?_
   refine NWp.opsJ ⟨tab [(6, vb true)], stab [], 0⟩ ?_ ?_
   ·
    refine q1 _ ?_
    exact nR []
   have hh := Option.some.inj h
   subst hh
   refine NWp.ret ?_
   show FQ _ _ _ _
   exact FQ.mk1 (.inr rfl) (res_t (v := vb true) rfl rfl) (RV.d trivial)
  ·
   replace h := iteF hc5 h
   refine NWp.condF (t := ((!r3) || (decide ((a2.length : Int) > 60)))) rfl hc5 ?_
   refine NWp.skip ?_
   obtain ⟨r6, hr6, h⟩ := bindE h
   refine NWp.opsJ ⟨tab [(1, vi a1), (2, vl5 a2), (7, .ptr 0 0 0), (8, vi r6.2)], stab [(0, .var [vl1 r6.1.Events, vl0 r6.1.Sets, .d (eL none (eL none (D.int .u16)) r6.1.States)])], 1⟩ ?_ ?_
   ·
    refine step (v := vs2 (api_Program.mk a0.Init (api_Pol.mk 0 0 0 []) a0.Rules)) (st_ldV (ds := [eL none (D.int .u16) a0.Init, .int .i64 0, .int .i64 0, .int .u16 0, eL (some 4) eapi_Pol [], eL (some 3) eapi_Rule a0.Rules]) rfl rfl (show 6 ≤ 6 by decide) rfl) ?_
    refine stepC (r := .tup [eapi_Nes r6.1, .int .i64 r6.2]) (ArgsOk.dt ArgsOk.nil') (c_ref12_Of hr6) ?_
    iterate 3 refine q1 _ ?_
    refine step (v := .ptr 1 0 0) (σ' := (upd (stab [(0, .var [vl4 a0.Init, vi 0, vi 0, vh 0, vl8 [], vl7 a0.Rules])]) 1 (some (.var [vl1 [], vl0 [], .d (eL none (eL none (D.int .u16)) [])])))) (n' := 2) rfl ?_
    refine step (v := V.undef) (σ' := (upd (upd (stab [(0, .var [vl4 a0.Init, vi 0, vi 0, vh 0, vl8 [], vl7 a0.Rules])]) 1 (some (.var [vl1 [], vl0 [], .d (eL none (eL none (D.int .u16)) [])]))) 1 (some (.var [vl1 r6.1.Events, vl0 r6.1.Sets, .d (eL none (eL none (D.int .u16)) r6.1.States)])))) (n' := 2) rfl ?_
    refine q1 _ ?_
    exact nR [1]
   refine NWp.seq ?_
   refine NWp.opsJ ⟨tab [(1, vi a1), (2, vl5 a2), (7, .ptr 0 0 0), (42, vb (r6.2 != 0))], stab [(0, .var [vl1 r6.1.Events, vl0 r6.1.Sets, .d (eL none (eL none (D.int .u16)) r6.1.States)])], 1⟩ ?_ ?_
   ·
    iterate 2 refine q1 _ ?_
    exact nR [0]
   by_cases hc7 : (r6.2 != 0) = true
   ·
    replace h := iteT hc7 h
    refine NWp.condT (t := (r6.2 != 0)) rfl hc7 ?_
    refine NWp.opsJ ⟨tab [(6, vb true)], stab [], 0⟩ ?_ ?_
    ·
     refine q1 _ ?_
     exact nR []
    have hh := Option.some.inj h
    subst hh
    refine NWp.ret ?_
    show FQ _ _ _ _
    exact FQ.mk1 (.inr rfl) (res_t (v := vb true) rfl rfl) (RV.d trivial)
   ·
    replace h := iteF hc7 h
    refine NWp.condF (t := (r6.2 != 0)) rfl hc7 ?_
    refine NWp.skip ?_
    obtain ⟨r8, hr8, h⟩ := bindE h
    obtain ⟨r9, hr9, h⟩ := bindE h
    refine NWp.opsSJ ⟨tab [(2, vl5 a2), (7, .ptr 0 0 0), (9, .ptr 1 0 0), (10, .ptr 4 0 0)], stab [(0, .var [vl1 r6.1.Events, vl0 r6.1.Sets, .d (eL none (eL none (D.int .u16)) r6.1.States)]), (1, .var [vl1 r8.n_.Events, vl0 r8.n_.Sets, .d (eL none (eL none (D.int .u16)) r8.n_.States), .d (.int .u64 r8.known), .loc 2 0 r8.peers.length, .loc 3 0 r8.order.length]), (2, .lst true (some 2) (List.map ectrl_peer r8.peers)), (3, .lst false none (List.map (D.int .i64) r8.order)), (4, .var [vl1 r9.N.Events, vl0 r9.N.Sets, .d (eL none (eL none (D.int .u16)) r9.N.States), .d (.int .u64 r9.Known), vl0 r9.Heard, vl0 r9.Told, vl2 r9.Order])], 5⟩ ?_ ?_
    ·
     refine stepL [0] [] (v := vs1 r6.1) (st_ldV (ds := [eL (some 2) eapi_Event r6.1.Events, eL none (D.int .u64) r6.1.Sets, eL none (eL none (D.int .u16)) r6.1.States]) rfl rfl (show 3 ≤ 3 by decide) rfl) rfl rfl ?_
     refine stepL [] [] (v := vi a1) rfl rfl rfl ?_
     refine stepLN (σ' := (upd (upd (upd (stab [(0, .var [vl1 r6.1.Events, vl0 r6.1.Sets, .d (eL none (eL none (D.int .u16)) r6.1.States)])]) 3 (some (.lst false none (List.map (D.int .i64) r8.order)))) 2 (some (.lst true (some 2) (List.map ectrl_peer r8.peers)))) 1 (some (.var [vl1 r8.n_.Events, vl0 r8.n_.Sets, .d (eL none (eL none (D.int .u16)) r8.n_.States), .d (.int .u64 r8.known), .loc 2 0 r8.peers.length, .loc 3 0 r8.order.length])))) (R := []) (W := []) (m := 4) (SCall.footN [] (c_ctrl_New hr8) (by decide) (by decide) (by decide) (dom_c (show 0 < 3 by decide) (dom_c (show 1 < 3 by decide) (dom_c (show 2 < 3 by decide) dom_n))) [] rfl (VNs.c (.d _) (VNs.c (.d _) VNs.nil0)) SN.nil0 (.ptr 1 0 0) rfl [(3, some (.lst false none (List.map (D.int .i64) r8.order))), (2, some (.lst true (some 2) (List.map ectrl_peer r8.peers))), (1, some (.var [vl1 r8.n_.Events, vl0 r8.n_.Sets, .d (eL none (eL none (D.int .u16)) r8.n_.States), .d (.int .u64 r8.known), .loc 2 0 r8.peers.length, .loc 3 0 r8.order.length]))] [] 4 rfl rfl rfl rfl (fun _ => rfl)) trivial rfl rfl ?_
     refine stepL [0] [] (v := vs1 r6.1) (st_ldV (ds := [eL (some 2) eapi_Event r6.1.Events, eL none (D.int .u64) r6.1.Sets, eL none (eL none (D.int .u16)) r6.1.States]) rfl rfl (show 3 ≤ 3 by decide) rfl) rfl rfl ?_
     refine stepL [] [] (v := vi a1) rfl rfl rfl ?_
     refine stepLC (r := eref18_Ctrl r9) [] (ArgsOk.dt (ArgsOk.dt ArgsOk.nil')) (c_ref18_New hr9) rfl ?_
     refine stepL [] [] (v := .ptr 4 0 0) (σ' := (upd (upd (upd (upd (stab [(0, .var [vl1 r6.1.Events, vl0 r6.1.Sets, .d (eL none (eL none (D.int .u16)) r6.1.States)])]) 3 (some (.lst false none (List.map (D.int .i64) r8.order)))) 2 (some (.lst true (some 2) (List.map ectrl_peer r8.peers)))) 1 (some (.var [vl1 r8.n_.Events, vl0 r8.n_.Sets, .d (eL none (eL none (D.int .u16)) r8.n_.States), .d (.int .u64 r8.known), .loc 2 0 r8.peers.length, .loc 3 0 r8.order.length]))) 4 (some (.var [vl1 [], vl0 [], .d (eL none (eL none (D.int .u16)) []), .d (.int .u64 0), vl0 [], vl0 [], vl2 []])))) (n' := 5) rfl rfl rfl ?_
     refine stepL [] [] (v := .ptr 1 0 0) rfl rfl rfl ?_
     refine stepL [4] [4] (v := V.undef) (σ' := (upd (upd (upd (upd (upd (stab [(0, .var [vl1 r6.1.Events, vl0 r6.1.Sets, .d (eL none (eL none (D.int .u16)) r6.1.States)])]) 3 (some (.lst false none (List.map (D.int .i64) r8.order)))) 2 (some (.lst true (some 2) (List.map ectrl_peer r8.peers)))) 1 (some (.var [vl1 r8.n_.Events, vl0 r8.n_.Sets, .d (eL none (eL none (D.int .u16)) r8.n_.States), .d (.int .u64 r8.known), .loc 2 0 r8.peers.length, .loc 3 0 r8.order.length]))) 4 (some (.var [vl1 [], vl0 [], .d (eL none (eL none (D.int .u16)) []), .d (.int .u64 0), vl0 [], vl0 [], vl2 []]))) 4 (some (.var [vl1 r9.N.Events, vl0 r9.N.Sets, .d (eL none (eL none (D.int .u16)) r9.N.States), .d (.int .u64 r9.Known), vl0 r9.Heard, vl0 r9.Told, vl2 r9.Order])))) (n' := 5) rfl rfl rfl ?_
     exact RunOpsL.nil' ⟨by decide, nr [0, 1, 2, 3, 4]⟩
    refine NWp.seq ?_
    refine NWp.opsJ ⟨tab [(7, .ptr 0 0 0), (9, .ptr 1 0 0), (10, .ptr 4 0 0), (49, vl5 a2), (50, vi (a2.length : Int)), (51, vi 0)], stab [(0, .var [vl1 r6.1.Events, vl0 r6.1.Sets, .d (eL none (eL none (D.int .u16)) r6.1.States)]), (1, .var [vl1 r8.n_.Events, vl0 r8.n_.Sets, .d (eL none (eL none (D.int .u16)) r8.n_.States), .d (.int .u64 r8.known), .loc 2 0 r8.peers.length, .loc 3 0 r8.order.length]), (2, .lst true (some 2) (List.map ectrl_peer r8.peers)), (3, .lst false none (List.map (D.int .i64) r8.order)), (4, .var [vl1 r9.N.Events, vl0 r9.N.Sets, .d (eL none (eL none (D.int .u16)) r9.N.States), .d (.int .u64 r9.Known), vl0 r9.Heard, vl0 r9.Told, vl2 r9.Order])], 5⟩ ?_ ?_
    ·
     refine q1 _ ?_
     refine step (v := vi (a2.length : Int)) (st_len (xs := a2) (e := elaw18_Act) rfl) ?_
     refine q1 _ ?_
     exact nR [0, 1, 2, 3, 4]
    obtain ⟨q80, hl, h⟩ := bindE h
    refine NWp.block ?_
    refine loop_forR (cntU (a2.length : Int)) (fun (i16 : Int) (qq : ((List api_Event) × (List Int) × (List (List Int)) × Int × (List ctrl_peer) × (List Int) × ref18_Ctrl)) => ⟨tab [(7, .ptr 0 0 0), (9, .ptr 1 0 0), (10, .ptr 4 0 0), (49, vl5 a2), (50, vi (a2.length : Int)), (51, vi i16)], stab [(0, .var [vl1 r6.1.Events, vl0 r6.1.Sets, .d (eL none (eL none (D.int .u16)) r6.1.States)]), (1, .var [vl1 qq.1, vl0 qq.2.1, .d (eL none (eL none (D.int .u16)) qq.2.2.1), .d (.int .u64 qq.2.2.2.1), .loc 2 0 qq.2.2.2.2.1.length, .loc 3 0 qq.2.2.2.2.2.1.length]), (2, .lst true (some 2) (List.map ectrl_peer qq.2.2.2.2.1)), (3, .lst false none (List.map (D.int .i64) qq.2.2.2.2.2.1)), (4, .var [vl1 qq.2.2.2.2.2.2.N.Events, vl0 qq.2.2.2.2.2.2.N.Sets, .d (eL none (eL none (D.int .u16)) qq.2.2.2.2.2.2.N.States), .d (.int .u64 qq.2.2.2.2.2.2.Known), vl0 qq.2.2.2.2.2.2.Heard, vl0 qq.2.2.2.2.2.2.Told, vl2 qq.2.2.2.2.2.2.Order])], 5⟩) 0 (fun (qq : ((List api_Event) × (List Int) × (List (List Int)) × Int × (List ctrl_peer) × (List Int) × ref18_Ctrl)) => ⟨tab [], stab [], 0⟩) Low low_step (r := r) hl (by unfold Low; omega) ?_ ?_ ?_ ?_
    ·
     rintro i16 ⟨y10, y11, y12, i13, l14, l15, y17⟩ xr22 hinv20 hgo19 h
     show NWp _ _ _ _ _ ⟨tab [(7, .ptr 0 0 0), (9, .ptr 1 0 0), (10, .ptr 4 0 0), (49, vl5 a2), (50, vi (a2.length : Int)), (51, vi i16)], stab [(0, .var [vl1 r6.1.Events, vl0 r6.1.Sets, .d (eL none (eL none (D.int .u16)) r6.1.States)]), (1, .var [vl1 y10, vl0 y11, .d (eL none (eL none (D.int .u16)) y12), .d (.int .u64 i13), .loc 2 0 l14.length, .loc 3 0 l15.length]), (2, .lst true (some 2) (List.map ectrl_peer l14)), (3, .lst false none (List.map (D.int .i64) l15)), (4, .var [vl1 y17.N.Events, vl0 y17.N.Sets, .d (eL none (eL none (D.int .u16)) y17.N.States), .d (.int .u64 y17.Known), vl0 y17.Heard, vl0 y17.Told, vl2 y17.Order])], 5⟩
     have hc21 : decide (i16 < (a2.length : Int)) = true := decide_eq_true hgo19
     refine NWp.opsJ ⟨tab [(7, .ptr 0 0 0), (9, .ptr 1 0 0), (10, .ptr 4 0 0), (49, vl5 a2), (50, vi (a2.length : Int)), (51, vi i16), (52, vb (decide (i16 < (a2.length : Int))))], stab [(0, .var [vl1 r6.1.Events, vl0 r6.1.Sets, .d (eL none (eL none (D.int .u16)) r6.1.States)]), (1, .var [vl1 y10, vl0 y11, .d (eL none (eL none (D.int .u16)) y12), .d (.int .u64 i13), .loc 2 0 l14.length, .loc 3 0 l15.length]), (2, .lst true (some 2) (List.map ectrl_peer l14)), (3, .lst false none (List.map (D.int .i64) l15)), (4, .var [vl1 y17.N.Events, vl0 y17.N.Sets, .d (eL none (eL none (D.int .u16)) y17.N.States), .d (.int .u64 y17.Known), vl0 y17.Heard, vl0 y17.Told, vl2 y17.Order])], 5⟩ ?_ ?_
     ·
      refine q1 _ ?_
      exact nR [0, 1, 2, 3, 4]
     refine NWp.rng 50 rfl fun hB18 => ?_
     refine NWp.seq ?_
     refine NWp.condT (t := decide (i16 < (a2.length : Int))) rfl hc21 ?_
     refine NWp.skip ?_
     refine NWp.seq ?_
     refine NWp.block ?_
     obtain ⟨x23, hx23, h⟩ := bindE h
     refine NWp.opsJ ⟨tab [(7, .ptr 0 0 0), (9, .ptr 1 0 0), (10, .ptr 4 0 0), (12, .ptr 5 0 0), (49, vl5 a2), (50, vi (a2.length : Int)), (51, vi i16)], stab [(0, .var [vl1 r6.1.Events, vl0 r6.1.Sets, .d (eL none (eL none (D.int .u16)) r6.1.States)]), (1, .var [vl1 y10, vl0 y11, .d (eL none (eL none (D.int .u16)) y12), .d (.int .u64 i13), .loc 2 0 l14.length, .loc 3 0 l15.length]), (2, .lst true (some 2) (List.map ectrl_peer l14)), (3, .lst false none (List.map (D.int .i64) l15)), (4, .var [vl1 y17.N.Events, vl0 y17.N.Sets, .d (eL none (eL none (D.int .u16)) y17.N.States), .d (.int .u64 y17.Known), vl0 y17.Heard, vl0 y17.Told, vl2 y17.Order]), (5, bv1 x23)], 6⟩ ?_ ?_
     ·
      refine step (v := .d (.cptr (some 4) (elaw18_Act x23) 0)) (st_iaddr (xs := a2) (e := elaw18_Act) hx23 rfl rfl) ?_
      refine q1 _ ?_
      refine step (v := .ptr 5 0 0) (σ' := (upd (stab [(0, .var [vl1 r6.1.Events, vl0 r6.1.Sets, .d (eL none (eL none (D.int .u16)) r6.1.States)]), (1, .var [vl1 y10, vl0 y11, .d (eL none (eL none (D.int .u16)) y12), .d (.int .u64 i13), .loc 2 0 l14.length, .loc 3 0 l15.length]), (2, .lst true (some 2) (List.map ectrl_peer l14)), (3, .lst false none (List.map (D.int .i64) l15)), (4, .var [vl1 y17.N.Events, vl0 y17.N.Sets, .d (eL none (eL none (D.int .u16)) y17.N.States), .d (.int .u64 y17.Known), vl0 y17.Heard, vl0 y17.Told, vl2 y17.Order])]) 5 (some (.var [vi 0, vi 0, vi 0, .d (.int .u64 0)])))) (n' := 6) rfl ?_
      refine step (v := V.undef) (σ' := (upd (upd (stab [(0, .var [vl1 r6.1.Events, vl0 r6.1.Sets, .d (eL none (eL none (D.int .u16)) r6.1.States)]), (1, .var [vl1 y10, vl0 y11, .d (eL none (eL none (D.int .u16)) y12), .d (.int .u64 i13), .loc 2 0 l14.length, .loc 3 0 l15.length]), (2, .lst true (some 2) (List.map ectrl_peer l14)), (3, .lst false none (List.map (D.int .i64) l15)), (4, .var [vl1 y17.N.Events, vl0 y17.N.Sets, .d (eL none (eL none (D.int .u16)) y17.N.States), .d (.int .u64 y17.Known), vl0 y17.Heard, vl0 y17.Told, vl2 y17.Order])]) 5 (some (.var [vi 0, vi 0, vi 0, .d (.int .u64 0)]))) 5 (some (bv1 x23)))) (n' := 6) rfl ?_
      exact nR [0, 1, 2, 3, 4, 5]
     refine NWp.opsJ ⟨tab [(7, .ptr 0 0 0), (9, .ptr 1 0 0), (10, .ptr 4 0 0), (12, .ptr 5 0 0), (13, vi (r6.1.Sets.length : Int)), (49, vl5 a2), (50, vi (a2.length : Int)), (51, vi i16)], stab [(0, .var [vl1 r6.1.Events, vl0 r6.1.Sets, .d (eL none (eL none (D.int .u16)) r6.1.States)]), (1, .var [vl1 y10, vl0 y11, .d (eL none (eL none (D.int .u16)) y12), .d (.int .u64 i13), .loc 2 0 l14.length, .loc 3 0 l15.length]), (2, .lst true (some 2) (List.map ectrl_peer l14)), (3, .lst false none (List.map (D.int .i64) l15)), (4, .var [vl1 y17.N.Events, vl0 y17.N.Sets, .d (eL none (eL none (D.int .u16)) y17.N.States), .d (.int .u64 y17.Known), vl0 y17.Heard, vl0 y17.Told, vl2 y17.Order]), (5, bv1 x23)], 6⟩ ?_ ?_
     ·
      iterate 2 refine q1 _ ?_
      refine step (v := vi (r6.1.Sets.length : Int)) (st_len (xs := r6.1.Sets) (e := (D.int .u64)) rfl) ?_
      refine q1 _ ?_
      exact nR [0, 1, 2, 3, 4, 5]
     obtain ⟨y28, hv, h⟩ := bindE h
     refine NWp.seqN ⟨tab [(7, .ptr 0 0 0), (9, .ptr 1 0 0), (10, .ptr 4 0 0), (12, .ptr 5 0 0), (49, vl5 a2), (50, vi (a2.length : Int)), (51, vi i16)], stab [(0, .var [vl1 r6.1.Events, vl0 r6.1.Sets, .d (eL none (eL none (D.int .u16)) r6.1.States)]), (1, .var [vl1 y10, vl0 y11, .d (eL none (eL none (D.int .u16)) y12), .d (.int .u64 i13), .loc 2 0 l14.length, .loc 3 0 l15.length]), (2, .lst true (some 2) (List.map ectrl_peer l14)), (3, .lst false none (List.map (D.int .i64) l15)), (4, .var [vl1 y17.N.Events, vl0 y17.N.Sets, .d (eL none (eL none (D.int .u16)) y17.N.States), .d (.int .u64 y17.Known), vl0 y17.Heard, vl0 y17.Told, vl2 y17.Order]), (5, bv1 y28)], 6⟩ ?_ ?_
     ·
      replace h := hv
      refine NWp.opsJ ⟨tab [(7, .ptr 0 0 0), (9, .ptr 1 0 0), (10, .ptr 4 0 0), (12, .ptr 5 0 0), (13, vi (r6.1.Sets.length : Int)), (49, vl5 a2), (50, vi (a2.length : Int)), (51, vi i16), (60, vb (x23.What == 0))], stab [(0, .var [vl1 r6.1.Events, vl0 r6.1.Sets, .d (eL none (eL none (D.int .u16)) r6.1.States)]), (1, .var [vl1 y10, vl0 y11, .d (eL none (eL none (D.int .u16)) y12), .d (.int .u64 i13), .loc 2 0 l14.length, .loc 3 0 l15.length]), (2, .lst true (some 2) (List.map ectrl_peer l14)), (3, .lst false none (List.map (D.int .i64) l15)), (4, .var [vl1 y17.N.Events, vl0 y17.N.Sets, .d (eL none (eL none (D.int .u16)) y17.N.States), .d (.int .u64 y17.Known), vl0 y17.Heard, vl0 y17.Told, vl2 y17.Order]), (5, bv1 x23)], 6⟩ ?_ ?_
      ·
       iterate 3 refine q1 _ ?_
       exact nR [0, 1, 2, 3, 4, 5]
      by_cases hc24 : (x23.What == 0) = true
      ·
       replace h := iteT hc24 h
       refine NWp.condT (t := (x23.What == 0)) rfl hc24 ?_
       obtain ⟨q25, hq25, h⟩ := bindE h
       obtain ⟨q26, hq26, h⟩ := bindE h
       obtain ⟨x27, hx27, h⟩ := bindE h
       have hh := Option.some.inj h
       subst hh
       refine NWp.opsE ⟨tab [(7, .ptr 0 0 0), (9, .ptr 1 0 0), (10, .ptr 4 0 0), (12, .ptr 5 0 0), (49, vl5 a2), (50, vi (a2.length : Int)), (51, vi i16)], stab [(0, .var [vl1 r6.1.Events, vl0 r6.1.Sets, .d (eL none (eL none (D.int .u16)) r6.1.States)]), (1, .var [vl1 y10, vl0 y11, .d (eL none (eL none (D.int .u16)) y12), .d (.int .u64 i13), .loc 2 0 l14.length, .loc 3 0 l15.length]), (2, .lst true (some 2) (List.map ectrl_peer l14)), (3, .lst false none (List.map (D.int .i64) l15)), (4, .var [vl1 y17.N.Events, vl0 y17.N.Sets, .d (eL none (eL none (D.int .u16)) y17.N.States), .d (.int .u64 y17.Known), vl0 y17.Heard, vl0 y17.Told, vl2 y17.Order]), (5, .var [vi ((law18_Act.mk x23.What x23.I x23.N x27).What), vi ((law18_Act.mk x23.What x23.I x23.N x27).I), vi ((law18_Act.mk x23.What x23.I x23.N x27).N), .d (.int .u64 ((law18_Act.mk x23.What x23.I x23.N x27).S))])], 6⟩ ?_ ?_
       ·
        iterate 5 refine q1 _ ?_
        refine step (v := vi q25) (st_rem hq25 rfl rfl) ?_
        iterate 3 refine q1 _ ?_
        refine step (v := vi q26) (st_rem hq26 rfl rfl) ?_
        refine step (v := .d (.cptr none (.int .u64 x27) 0)) (st_iaddr (xs := r6.1.Sets) (e := (D.int .u64)) hx27 rfl rfl) ?_
        iterate 2 refine q1 _ ?_
        refine step (v := V.undef) (σ' := (upd (stab [(0, .var [vl1 r6.1.Events, vl0 r6.1.Sets, .d (eL none (eL none (D.int .u16)) r6.1.States)]), (1, .var [vl1 y10, vl0 y11, .d (eL none (eL none (D.int .u16)) y12), .d (.int .u64 i13), .loc 2 0 l14.length, .loc 3 0 l15.length]), (2, .lst true (some 2) (List.map ectrl_peer l14)), (3, .lst false none (List.map (D.int .i64) l15)), (4, .var [vl1 y17.N.Events, vl0 y17.N.Sets, .d (eL none (eL none (D.int .u16)) y17.N.States), .d (.int .u64 y17.Known), vl0 y17.Heard, vl0 y17.Told, vl2 y17.Order]), (5, bv1 x23)]) 5 (some (.var [vi x23.What, vi x23.I, vi x23.N, .d (.int .u64 x27)])))) (n' := 6) rfl ?_
        exact nR [0, 1, 2, 3, 4, 5]
       exact And.intro rfl rfl
      ·
       replace h := iteF hc24 h
       refine NWp.condF (t := (x23.What == 0)) rfl hc24 ?_
       have hh := Option.some.inj h
       subst hh
       refine NWp.norm (s0 := ⟨tab [(7, .ptr 0 0 0), (9, .ptr 1 0 0), (10, .ptr 4 0 0), (12, .ptr 5 0 0), (49, vl5 a2), (50, vi (a2.length : Int)), (51, vi i16)], stab [(0, .var [vl1 r6.1.Events, vl0 r6.1.Sets, .d (eL none (eL none (D.int .u16)) r6.1.States)]), (1, .var [vl1 y10, vl0 y11, .d (eL none (eL none (D.int .u16)) y12), .d (.int .u64 i13), .loc 2 0 l14.length, .loc 3 0 l15.length]), (2, .lst true (some 2) (List.map ectrl_peer l14)), (3, .lst false none (List.map (D.int .i64) l15)), (4, .var [vl1 y17.N.Events, vl0 y17.N.Sets, .d (eL none (eL none (D.int .u16)) y17.N.States), .d (.int .u64 y17.Known), vl0 y17.Heard, vl0 y17.Told, vl2 y17.Order]), (5, bv1 x23)], 6⟩) (nr [0, 1, 2, 3, 4, 5]) ?_
       refine NWp.skip ?_
       exact And.intro rfl rfl
     obtain ⟨q45, hv, h⟩ := bindE h
     refine NWp.seqS (fun (qq : ((List api_Event) × (List Int) × (List (List Int)) × Int × (List ctrl_peer) × (List Int) × ref18_Ctrl)) => ⟨tab [(7, .ptr 0 0 0), (9, .ptr 1 0 0), (10, .ptr 4 0 0), (49, vl5 a2), (50, vi (a2.length : Int)), (51, vi i16)], stab [(0, .var [vl1 r6.1.Events, vl0 r6.1.Sets, .d (eL none (eL none (D.int .u16)) r6.1.States)]), (1, .var [vl1 qq.1, vl0 qq.2.1, .d (eL none (eL none (D.int .u16)) qq.2.2.1), .d (.int .u64 qq.2.2.2.1), .loc 2 0 qq.2.2.2.2.1.length, .loc 3 0 qq.2.2.2.2.2.1.length]), (2, .lst true (some 2) (List.map ectrl_peer qq.2.2.2.2.1)), (3, .lst false none (List.map (D.int .i64) qq.2.2.2.2.2.1)), (4, .var [vl1 qq.2.2.2.2.2.2.N.Events, vl0 qq.2.2.2.2.2.2.N.Sets, .d (eL none (eL none (D.int .u16)) qq.2.2.2.2.2.2.N.States), .d (.int .u64 qq.2.2.2.2.2.2.Known), vl0 qq.2.2.2.2.2.2.Heard, vl0 qq.2.2.2.2.2.2.Told, vl2 qq.2.2.2.2.2.2.Order])], 5⟩) (xv := q45) (r := xr22) ?_ ?_ ?_
     ·
      replace h := hv
      refine NWp.opsJ ⟨tab [(7, .ptr 0 0 0), (9, .ptr 1 0 0), (10, .ptr 4 0 0), (12, .ptr 5 0 0), (49, vl5 a2), (50, vi (a2.length : Int)), (51, vi i16), (76, vb (y28.What == 2))], stab [(0, .var [vl1 r6.1.Events, vl0 r6.1.Sets, .d (eL none (eL none (D.int .u16)) r6.1.States)]), (1, .var [vl1 y10, vl0 y11, .d (eL none (eL none (D.int .u16)) y12), .d (.int .u64 i13), .loc 2 0 l14.length, .loc 3 0 l15.length]), (2, .lst true (some 2) (List.map ectrl_peer l14)), (3, .lst false none (List.map (D.int .i64) l15)), (4, .var [vl1 y17.N.Events, vl0 y17.N.Sets, .d (eL none (eL none (D.int .u16)) y17.N.States), .d (.int .u64 y17.Known), vl0 y17.Heard, vl0 y17.Told, vl2 y17.Order]), (5, bv1 y28)], 6⟩ ?_ ?_
      ·
       iterate 3 refine q1 _ ?_
       exact nR [0, 1, 2, 3, 4, 5]
      by_cases hc30 : (y28.What == 2) = true
      ·
       replace h := iteT hc30 h
       refine NWp.condT (t := (y28.What == 2)) rfl hc30 ?_
       obtain ⟨r31, hr31, h⟩ := bindE h
       refine NWp.opsJ ⟨tab [(7, .ptr 0 0 0), (9, .ptr 1 0 0), (10, .ptr 4 0 0), (12, .ptr 5 0 0), (14, .ptr 6 0 0), (15, .d (.int .u64 r31.2.1)), (16, vi r31.2.2), (49, vl5 a2), (50, vi (a2.length : Int)), (51, vi i16)], stab [(0, .var [vl1 r6.1.Events, vl0 r6.1.Sets, .d (eL none (eL none (D.int .u16)) r6.1.States)]), (1, .var [vl1 y10, vl0 y11, .d (eL none (eL none (D.int .u16)) y12), .d (.int .u64 i13), .loc 2 0 l14.length, .loc 3 0 l15.length]), (2, .lst true (some 2) (List.map ectrl_peer l14)), (3, .lst false none (List.map (D.int .i64) l15)), (4, .var [vl1 y17.N.Events, vl0 y17.N.Sets, .d (eL none (eL none (D.int .u16)) y17.N.States), .d (.int .u64 y17.Known), vl0 y17.Heard, vl0 y17.Told, vl2 y17.Order]), (5, bv1 y28), (6, .var [vl1 r31.1.N.Events, vl0 r31.1.N.Sets, .d (eL none (eL none (D.int .u16)) r31.1.N.States), .d (.int .u64 r31.1.Known), vl0 r31.1.Heard, vl0 r31.1.Told, vl2 r31.1.Order])], 7⟩ ?_ ?_
       ·
        refine step (v := vs3 y17) (st_ldV (ds := [eL (some 2) eapi_Event y17.N.Events, eL none (D.int .u64) y17.N.Sets, eL none (eL none (D.int .u16)) y17.N.States, .int .u64 y17.Known, eL none (D.int .u64) y17.Heard, eL none (D.int .u64) y17.Told, eL none (D.int .i64) y17.Order]) rfl rfl (show 7 ≤ 7 by decide) rfl) ?_
        iterate 2 refine q1 _ ?_
        refine stepC (r := .tup [eref18_Ctrl r31.1, .int .u64 r31.2.1, .int .i64 r31.2.2]) (ArgsOk.dt (ArgsOk.dt ArgsOk.nil')) (c_ref18_Ctrl_Tell hr31) ?_
        iterate 4 refine q1 _ ?_
        refine step (v := .ptr 6 0 0) (σ' := (upd (stab [(0, .var [vl1 r6.1.Events, vl0 r6.1.Sets, .d (eL none (eL none (D.int .u16)) r6.1.States)]), (1, .var [vl1 y10, vl0 y11, .d (eL none (eL none (D.int .u16)) y12), .d (.int .u64 i13), .loc 2 0 l14.length, .loc 3 0 l15.length]), (2, .lst true (some 2) (List.map ectrl_peer l14)), (3, .lst false none (List.map (D.int .i64) l15)), (4, .var [vl1 y17.N.Events, vl0 y17.N.Sets, .d (eL none (eL none (D.int .u16)) y17.N.States), .d (.int .u64 y17.Known), vl0 y17.Heard, vl0 y17.Told, vl2 y17.Order]), (5, bv1 y28)]) 6 (some (.var [vl1 [], vl0 [], .d (eL none (eL none (D.int .u16)) []), .d (.int .u64 0), vl0 [], vl0 [], vl2 []])))) (n' := 7) rfl ?_
        refine step (v := V.undef) (σ' := (upd (upd (stab [(0, .var [vl1 r6.1.Events, vl0 r6.1.Sets, .d (eL none (eL none (D.int .u16)) r6.1.States)]), (1, .var [vl1 y10, vl0 y11, .d (eL none (eL none (D.int .u16)) y12), .d (.int .u64 i13), .loc 2 0 l14.length, .loc 3 0 l15.length]), (2, .lst true (some 2) (List.map ectrl_peer l14)), (3, .lst false none (List.map (D.int .i64) l15)), (4, .var [vl1 y17.N.Events, vl0 y17.N.Sets, .d (eL none (eL none (D.int .u16)) y17.N.States), .d (.int .u64 y17.Known), vl0 y17.Heard, vl0 y17.Told, vl2 y17.Order]), (5, bv1 y28)]) 6 (some (.var [vl1 [], vl0 [], .d (eL none (eL none (D.int .u16)) []), .d (.int .u64 0), vl0 [], vl0 [], vl2 []]))) 6 (some (.var [vl1 r31.1.N.Events, vl0 r31.1.N.Sets, .d (eL none (eL none (D.int .u16)) r31.1.N.States), .d (.int .u64 r31.1.Known), vl0 r31.1.Heard, vl0 r31.1.Told, vl2 r31.1.Order])))) (n' := 7) rfl ?_
        iterate 2 refine q1 _ ?_
        exact nR [0, 1, 2, 3, 4, 5, 6]
       obtain ⟨r32, hr32, h⟩ := bindE h
       refine NWp.opsJ ⟨tab [(7, .ptr 0 0 0), (9, .ptr 1 0 0), (10, .ptr 4 0 0), (14, .ptr 5 0 0), (15, .d (.int .u64 r31.2.1)), (16, vi r31.2.2), (17, .d (.int .u64 r32.1)), (18, vi r32.2.1), (49, vl5 a2), (50, vi (a2.length : Int)), (51, vi i16)], stab [(0, .var [vl1 r6.1.Events, vl0 r6.1.Sets, .d (eL none (eL none (D.int .u16)) r6.1.States)]), (1, .var [vl1 r32.2.2.n_.Events, vl0 r32.2.2.n_.Sets, .d (eL none (eL none (D.int .u16)) r32.2.2.n_.States), .d (.int .u64 r32.2.2.known), .loc 2 0 r32.2.2.peers.length, .loc 3 0 r32.2.2.order.length]), (2, .lst true (some 2) (List.map ectrl_peer r32.2.2.peers)), (3, .lst false none (List.map (D.int .i64) r32.2.2.order)), (4, .var [vl1 y17.N.Events, vl0 y17.N.Sets, .d (eL none (eL none (D.int .u16)) y17.N.States), .d (.int .u64 y17.Known), vl0 y17.Heard, vl0 y17.Told, vl2 y17.Order]), (5, .var [vl1 r31.1.N.Events, vl0 r31.1.N.Sets, .d (eL none (eL none (D.int .u16)) r31.1.N.States), .d (.int .u64 r31.1.Known), vl0 r31.1.Heard, vl0 r31.1.Told, vl2 r31.1.Order])], 6⟩ ?_ ?_
       ·
        iterate 3 refine q1 _ ?_
        refine stepW (v := .d (.tup [.int .u64 r32.1, .int .i64 r32.2.1])) (σ' := (upd (upd (upd (upd (upd (upd (stab [(0, .var [vl1 r6.1.Events, vl0 r6.1.Sets, .d (eL none (eL none (D.int .u16)) r6.1.States)]), (1, .var [vl1 y10, vl0 y11, .d (eL none (eL none (D.int .u16)) y12), .d (.int .u64 i13), .loc 2 0 l14.length, .loc 3 0 l15.length]), (2, .lst true (some 2) (List.map ectrl_peer l14)), (3, .lst false none (List.map (D.int .i64) l15)), (4, .var [vl1 y17.N.Events, vl0 y17.N.Sets, .d (eL none (eL none (D.int .u16)) y17.N.States), .d (.int .u64 y17.Known), vl0 y17.Heard, vl0 y17.Told, vl2 y17.Order]), (5, bv1 y28), (6, .var [vl1 r31.1.N.Events, vl0 r31.1.N.Sets, .d (eL none (eL none (D.int .u16)) r31.1.N.States), .d (.int .u64 r31.1.Known), vl0 r31.1.Heard, vl0 r31.1.Told, vl2 r31.1.Order])]) 3 none) 2 none) 1 none) 3 (some (.lst false none (List.map (D.int .i64) r32.2.2.order)))) 2 (some (.lst true (some 2) (List.map ectrl_peer r32.2.2.peers)))) 1 (some (.var [vl1 r32.2.2.n_.Events, vl0 r32.2.2.n_.Sets, .d (eL none (eL none (D.int .u16)) r32.2.2.n_.States), .d (.int .u64 r32.2.2.known), .loc 2 0 r32.2.2.peers.length, .loc 3 0 r32.2.2.order.length])))) (n' := 7) (SCall.lift [1, 2, 3] (c_ctrl_Ctrl_Tell hr32) (show 3 ≤ 3 by decide) (by decide) (show ∀ i ∈ [1, 2, 3], i < 7 by decide) (dom_c (show 0 < 3 by decide) (dom_c (show 1 < 3 by decide) (dom_c (show 2 < 3 by decide) dom_n))) (VNs.c (.pt 0) (VNs.c (.d _) VNs.nil0)) (SN.c (show 0 < 3 by decide) rfl (.vars (VNs.c (.d _) (VNs.c (.d _) (VNs.c (.d _) (VNs.c (.d _) (VNs.c (.lc 1) (VNs.c (.lc 2) VNs.nil0))))))) (SN.c (show 1 < 3 by decide) rfl (.lst _ _ _) (SN.c (show 2 < 3 by decide) rfl (.lst _ _ _) SN.nil0)))) (show 7 ≤ 7 by decide) ?_
        iterate 5 refine q1 _ ?_
        exact nR [0, 1, 2, 3, 4, 6]
       refine NWp.seq ?_
       refine NWp.opsJ ⟨tab [(7, .ptr 0 0 0), (9, .ptr 1 0 0), (10, .ptr 4 0 0), (14, .ptr 5 0 0), (49, vl5 a2), (50, vi (a2.length : Int)), (51, vi i16), (99, vb ((r32.2.1 != r31.2.2) || (r31.2.1 != r32.1)))], stab [(0, .var [vl1 r6.1.Events, vl0 r6.1.Sets, .d (eL none (eL none (D.int .u16)) r6.1.States)]), (1, .var [vl1 r32.2.2.n_.Events, vl0 r32.2.2.n_.Sets, .d (eL none (eL none (D.int .u16)) r32.2.2.n_.States), .d (.int .u64 r32.2.2.known), .loc 2 0 r32.2.2.peers.length, .loc 3 0 r32.2.2.order.length]), (2, .lst true (some 2) (List.map ectrl_peer r32.2.2.peers)), (3, .lst false none (List.map (D.int .i64) r32.2.2.order)), (4, .var [vl1 y17.N.Events, vl0 y17.N.Sets, .d (eL none (eL none (D.int .u16)) y17.N.States), .d (.int .u64 y17.Known), vl0 y17.Heard, vl0 y17.Told, vl2 y17.Order]), (5, .var [vl1 r31.1.N.Events, vl0 r31.1.N.Sets, .d (eL none (eL none (D.int .u16)) r31.1.N.States), .d (.int .u64 r31.1.Known), vl0 r31.1.Heard, vl0 r31.1.Told, vl2 r31.1.Order])], 6⟩ ?_ ?_
       ·
        iterate 4 refine q1 _ ?_
        by_cases hg33 : (r32.2.1 != r31.2.2) = true
        ·
         iterate 3 refine qX (r32.2.1 != r31.2.2) (by rw [hg33]; decide) ?_
         refine step (v := vb true) (st_pickT (b := (r32.2.1 != r31.2.2)) rfl hg33 rfl) ?_
         exact RunOps.nil' (nm [0, 1, 2, 3, 4, 5] ⟨.pt 0, .pt 1, .pt 4, .pt 5, .d _, .d _, .d _, .eq (by first | (simp [hg33]; done) | (simp_all; done) | grind), trivial⟩ ⟨⟨show 0 < 6 by decide, _, rfl, .vars ⟨.d _, .d _, .d _, trivial⟩⟩, ⟨show 1 < 6 by decide, _, rfl, .vars ⟨.d _, .d _, .d _, .d _, .lc 2, .lc 3, trivial⟩⟩, ⟨show 2 < 6 by decide, _, rfl, .lst _ _ _⟩, ⟨show 3 < 6 by decide, _, rfl, .lst _ _ _⟩, ⟨show 4 < 6 by decide, _, rfl, .vars ⟨.d _, .d _, .d _, .d _, .d _, .d _, .d _, trivial⟩⟩, ⟨show 5 < 6 by decide, _, rfl, .vars ⟨.d _, .d _, .d _, .d _, .d _, .d _, .d _, trivial⟩⟩, trivial⟩)
        ·
         refine qG (r32.2.1 != r31.2.2) (Bool.eq_false_iff.2 hg33) ?_
         refine q1 _ ?_
         refine qG (r32.2.1 != r31.2.2) (Bool.eq_false_iff.2 hg33) ?_
         refine q1 _ ?_
         refine qG (r32.2.1 != r31.2.2) (Bool.eq_false_iff.2 hg33) ?_
         refine q1 _ ?_
         refine step (v := vb (r31.2.1 != r32.1)) (st_pickF (b := (r32.2.1 != r31.2.2)) rfl hg33 rfl) ?_
         exact RunOps.nil' (nm [0, 1, 2, 3, 4, 5] ⟨.pt 0, .pt 1, .pt 4, .pt 5, .d _, .d _, .d _, .eq (by first | (simp [hg33]; done) | (simp_all; done) | grind), trivial⟩ ⟨⟨show 0 < 6 by decide, _, rfl, .vars ⟨.d _, .d _, .d _, trivial⟩⟩, ⟨show 1 < 6 by decide, _, rfl, .vars ⟨.d _, .d _, .d _, .d _, .lc 2, .lc 3, trivial⟩⟩, ⟨show 2 < 6 by decide, _, rfl, .lst _ _ _⟩, ⟨show 3 < 6 by decide, _, rfl, .lst _ _ _⟩, ⟨show 4 < 6 by decide, _, rfl, .vars ⟨.d _, .d _, .d _, .d _, .d _, .d _, .d _, trivial⟩⟩, ⟨show 5 < 6 by decide, _, rfl, .vars ⟨.d _, .d _, .d _, .d _, .d _, .d _, .d _, trivial⟩⟩, trivial⟩)
       by_cases hc34 : ((r32.2.1 != r31.2.2) || (r31.2.1 != r32.1)) = true
       ·
        replace h := iteT hc34 h
        refine NWp.condT (t := ((r32.2.1 != r31.2.2) || (r31.2.1 != r32.1))) rfl hc34 ?_
        refine NWp.opsJ ⟨tab [(6, vb false)], stab [], 0⟩ ?_ ?_
        ·
         refine q1 _ ?_
         exact nR []
        obtain ⟨r35, kr35, hr⟩ := mapE (o := some (Br.ret false)) (g := Sum.inr) h
        subst hr
        have h := kr35
        obtain ⟨r36, kr36, hr⟩ := mapE (o := some false) (g := Br.ret) h
        subst hr
        have h := kr36
        have hh := Option.some.inj h
        subst hh
        refine NWp.ret ?_
        refine And.intro (fun hn => nomatch hn) ?_
        intro hq
        have hq := hq.symm
        subst hq
        refine And.intro (fun hn => nomatch hn) ?_
        intro hq
        have hq := hq.symm
        subst hq
        show FQ _ _ _ _
        exact FQ.mk1 (.inr rfl) (res_t (v := vb false) rfl rfl) (RV.d trivial)
       ·
        replace h := iteF hc34 h
        refine NWp.condF (t := ((r32.2.1 != r31.2.2) || (r31.2.1 != r32.1))) rfl hc34 ?_
        refine NWp.skip ?_
        have hh := Option.some.inj h
        subst hh
        refine NWp.opsE ⟨tab [(7, .ptr 0 0 0), (9, .ptr 1 0 0), (10, .ptr 4 0 0), (49, vl5 a2), (50, vi (a2.length : Int)), (51, vi i16)], stab [(0, .var [vl1 r6.1.Events, vl0 r6.1.Sets, .d (eL none (eL none (D.int .u16)) r6.1.States)]), (1, .var [vl1 r32.2.2.n_.Events, vl0 r32.2.2.n_.Sets, .d (eL none (eL none (D.int .u16)) r32.2.2.n_.States), .d (.int .u64 r32.2.2.known), .loc 2 0 r32.2.2.peers.length, .loc 3 0 r32.2.2.order.length]), (2, .lst true (some 2) (List.map ectrl_peer r32.2.2.peers)), (3, .lst false none (List.map (D.int .i64) r32.2.2.order)), (4, .var [vl1 r31.1.N.Events, vl0 r31.1.N.Sets, .d (eL none (eL none (D.int .u16)) r31.1.N.States), .d (.int .u64 r31.1.Known), vl0 r31.1.Heard, vl0 r31.1.Told, vl2 r31.1.Order])], 5⟩ ?_ ?_
        ·
         refine step (v := vs3 r31.1) (st_ldV (ds := [eL (some 2) eapi_Event r31.1.N.Events, eL none (D.int .u64) r31.1.N.Sets, eL none (eL none (D.int .u16)) r31.1.N.States, .int .u64 r31.1.Known, eL none (D.int .u64) r31.1.Heard, eL none (D.int .u64) r31.1.Told, eL none (D.int .i64) r31.1.Order]) rfl rfl (show 7 ≤ 7 by decide) rfl) ?_
         refine step (v := V.undef) (σ' := (upd (stab [(0, .var [vl1 r6.1.Events, vl0 r6.1.Sets, .d (eL none (eL none (D.int .u16)) r6.1.States)]), (1, .var [vl1 r32.2.2.n_.Events, vl0 r32.2.2.n_.Sets, .d (eL none (eL none (D.int .u16)) r32.2.2.n_.States), .d (.int .u64 r32.2.2.known), .loc 2 0 r32.2.2.peers.length, .loc 3 0 r32.2.2.order.length]), (2, .lst true (some 2) (List.map ectrl_peer r32.2.2.peers)), (3, .lst false none (List.map (D.int .i64) r32.2.2.order)), (4, .var [vl1 y17.N.Events, vl0 y17.N.Sets, .d (eL none (eL none (D.int .u16)) y17.N.States), .d (.int .u64 y17.Known), vl0 y17.Heard, vl0 y17.Told, vl2 y17.Order]), (5, .var [vl1 r31.1.N.Events, vl0 r31.1.N.Sets, .d (eL none (eL none (D.int .u16)) r31.1.N.States), .d (.int .u64 r31.1.Known), vl0 r31.1.Heard, vl0 r31.1.Told, vl2 r31.1.Order])]) 4 (some (.var [vl1 r31.1.N.Events, vl0 r31.1.N.Sets, .d (eL none (eL none (D.int .u16)) r31.1.N.States), .d (.int .u64 r31.1.Known), vl0 r31.1.Heard, vl0 r31.1.Told, vl2 r31.1.Order])))) (n' := 6) rfl ?_
         exact nR [0, 1, 2, 3, 4]
        exact And.intro rfl rfl
      ·
       replace h := iteF hc30 h
       refine NWp.condF (t := (y28.What == 2)) rfl hc30 ?_
       obtain ⟨r35, hr35, h⟩ := bindE h
       refine NWp.opsJ ⟨tab [(7, .ptr 0 0 0), (9, .ptr 1 0 0), (10, .ptr 4 0 0), (12, .ptr 5 0 0), (19, .ptr 6 0 0), (20, vi r35.2), (49, vl5 a2), (50, vi (a2.length : Int)), (51, vi i16)], stab [(0, .var [vl1 r6.1.Events, vl0 r6.1.Sets, .d (eL none (eL none (D.int .u16)) r6.1.States)]), (1, .var [vl1 y10, vl0 y11, .d (eL none (eL none (D.int .u16)) y12), .d (.int .u64 i13), .loc 2 0 l14.length, .loc 3 0 l15.length]), (2, .lst true (some 2) (List.map ectrl_peer l14)), (3, .lst false none (List.map (D.int .i64) l15)), (4, .var [vl1 y17.N.Events, vl0 y17.N.Sets, .d (eL none (eL none (D.int .u16)) y17.N.States), .d (.int .u64 y17.Known), vl0 y17.Heard, vl0 y17.Told, vl2 y17.Order]), (5, bv1 y28), (6, .var [vl1 r35.1.N.Events, vl0 r35.1.N.Sets, .d (eL none (eL none (D.int .u16)) r35.1.N.States), .d (.int .u64 r35.1.Known), vl0 r35.1.Heard, vl0 r35.1.Told, vl2 r35.1.Order])], 7⟩ ?_ ?_
       ·
        refine step (v := vs3 y17) (st_ldV (ds := [eL (some 2) eapi_Event y17.N.Events, eL none (D.int .u64) y17.N.Sets, eL none (eL none (D.int .u16)) y17.N.States, .int .u64 y17.Known, eL none (D.int .u64) y17.Heard, eL none (D.int .u64) y17.Told, eL none (D.int .i64) y17.Order]) rfl rfl (show 7 ≤ 7 by decide) rfl) ?_
        iterate 4 refine q1 _ ?_
        refine stepC (r := .tup [eref18_Ctrl r35.1, .int .i64 r35.2]) (ArgsOk.dt (ArgsOk.dt (ArgsOk.dt ArgsOk.nil'))) (c_ref18_Ctrl_Hear hr35) ?_
        iterate 3 refine q1 _ ?_
        refine step (v := .ptr 6 0 0) (σ' := (upd (stab [(0, .var [vl1 r6.1.Events, vl0 r6.1.Sets, .d (eL none (eL none (D.int .u16)) r6.1.States)]), (1, .var [vl1 y10, vl0 y11, .d (eL none (eL none (D.int .u16)) y12), .d (.int .u64 i13), .loc 2 0 l14.length, .loc 3 0 l15.length]), (2, .lst true (some 2) (List.map ectrl_peer l14)), (3, .lst false none (List.map (D.int .i64) l15)), (4, .var [vl1 y17.N.Events, vl0 y17.N.Sets, .d (eL none (eL none (D.int .u16)) y17.N.States), .d (.int .u64 y17.Known), vl0 y17.Heard, vl0 y17.Told, vl2 y17.Order]), (5, bv1 y28)]) 6 (some (.var [vl1 [], vl0 [], .d (eL none (eL none (D.int .u16)) []), .d (.int .u64 0), vl0 [], vl0 [], vl2 []])))) (n' := 7) rfl ?_
        refine step (v := V.undef) (σ' := (upd (upd (stab [(0, .var [vl1 r6.1.Events, vl0 r6.1.Sets, .d (eL none (eL none (D.int .u16)) r6.1.States)]), (1, .var [vl1 y10, vl0 y11, .d (eL none (eL none (D.int .u16)) y12), .d (.int .u64 i13), .loc 2 0 l14.length, .loc 3 0 l15.length]), (2, .lst true (some 2) (List.map ectrl_peer l14)), (3, .lst false none (List.map (D.int .i64) l15)), (4, .var [vl1 y17.N.Events, vl0 y17.N.Sets, .d (eL none (eL none (D.int .u16)) y17.N.States), .d (.int .u64 y17.Known), vl0 y17.Heard, vl0 y17.Told, vl2 y17.Order]), (5, bv1 y28)]) 6 (some (.var [vl1 [], vl0 [], .d (eL none (eL none (D.int .u16)) []), .d (.int .u64 0), vl0 [], vl0 [], vl2 []]))) 6 (some (.var [vl1 r35.1.N.Events, vl0 r35.1.N.Sets, .d (eL none (eL none (D.int .u16)) r35.1.N.States), .d (.int .u64 r35.1.Known), vl0 r35.1.Heard, vl0 r35.1.Told, vl2 r35.1.Order])))) (n' := 7) rfl ?_
        refine q1 _ ?_
        exact nR [0, 1, 2, 3, 4, 5, 6]
       refine NWp.seq ?_
       obtain ⟨r36, hr36, h⟩ := bindE h
       refine NWp.opsJ ⟨tab [(7, .ptr 0 0 0), (9, .ptr 1 0 0), (10, .ptr 4 0 0), (19, .ptr 5 0 0), (49, vl5 a2), (50, vi (a2.length : Int)), (51, vi i16), (117, vb (r36.1 != r35.2))], stab [(0, .var [vl1 r6.1.Events, vl0 r6.1.Sets, .d (eL none (eL none (D.int .u16)) r6.1.States)]), (1, .var [vl1 r36.2.n_.Events, vl0 r36.2.n_.Sets, .d (eL none (eL none (D.int .u16)) r36.2.n_.States), .d (.int .u64 r36.2.known), .loc 2 0 r36.2.peers.length, .loc 3 0 r36.2.order.length]), (2, .lst true (some 2) (List.map ectrl_peer r36.2.peers)), (3, .lst false none (List.map (D.int .i64) r36.2.order)), (4, .var [vl1 y17.N.Events, vl0 y17.N.Sets, .d (eL none (eL none (D.int .u16)) y17.N.States), .d (.int .u64 y17.Known), vl0 y17.Heard, vl0 y17.Told, vl2 y17.Order]), (5, .var [vl1 r35.1.N.Events, vl0 r35.1.N.Sets, .d (eL none (eL none (D.int .u16)) r35.1.N.States), .d (.int .u64 r35.1.Known), vl0 r35.1.Heard, vl0 r35.1.Told, vl2 r35.1.Order])], 6⟩ ?_ ?_
       ·
        iterate 5 refine q1 _ ?_
        refine stepW (v := vi r36.1) (σ' := (upd (upd (upd (upd (upd (upd (stab [(0, .var [vl1 r6.1.Events, vl0 r6.1.Sets, .d (eL none (eL none (D.int .u16)) r6.1.States)]), (1, .var [vl1 y10, vl0 y11, .d (eL none (eL none (D.int .u16)) y12), .d (.int .u64 i13), .loc 2 0 l14.length, .loc 3 0 l15.length]), (2, .lst true (some 2) (List.map ectrl_peer l14)), (3, .lst false none (List.map (D.int .i64) l15)), (4, .var [vl1 y17.N.Events, vl0 y17.N.Sets, .d (eL none (eL none (D.int .u16)) y17.N.States), .d (.int .u64 y17.Known), vl0 y17.Heard, vl0 y17.Told, vl2 y17.Order]), (5, bv1 y28), (6, .var [vl1 r35.1.N.Events, vl0 r35.1.N.Sets, .d (eL none (eL none (D.int .u16)) r35.1.N.States), .d (.int .u64 r35.1.Known), vl0 r35.1.Heard, vl0 r35.1.Told, vl2 r35.1.Order])]) 3 none) 2 none) 1 none) 7 (some (.lst false none (List.map (D.int .i64) r36.2.order)))) 2 (some (.lst true (some 2) (List.map ectrl_peer r36.2.peers)))) 1 (some (.var [vl1 r36.2.n_.Events, vl0 r36.2.n_.Sets, .d (eL none (eL none (D.int .u16)) r36.2.n_.States), .d (.int .u64 r36.2.known), .loc 2 0 r36.2.peers.length, .loc 7 0 r36.2.order.length])))) (n' := 8) (SCall.lift [1, 2, 3] (c_ctrl_Ctrl_Hear hr36) (show 3 ≤ 4 by decide) (by decide) (show ∀ i ∈ [1, 2, 3], i < 7 by decide) (dom_c (show 0 < 4 by decide) (dom_c (show 1 < 4 by decide) (dom_c (show 3 < 4 by decide) dom_n))) (VNs.c (.pt 0) (VNs.c (.d _) (VNs.c (.d _) VNs.nil0))) (SN.c (show 0 < 3 by decide) rfl (.vars (VNs.c (.d _) (VNs.c (.d _) (VNs.c (.d _) (VNs.c (.d _) (VNs.c (.lc 1) (VNs.c (.lc 2) VNs.nil0))))))) (SN.c (show 1 < 3 by decide) rfl (.lst _ _ _) (SN.c (show 2 < 3 by decide) rfl (.lst _ _ _) SN.nil0)))) (show 7 ≤ 8 by decide) ?_
        iterate 2 refine q1 _ ?_
        exact nR [0, 1, 2, 7, 4, 6]
       by_cases hc37 : (r36.1 != r35.2) = true
       ·
        replace h := iteT hc37 h
        refine NWp.condT (t := (r36.1 != r35.2)) rfl hc37 ?_
        refine NWp.opsJ ⟨tab [(6, vb false)], stab [], 0⟩ ?_ ?_
        ·
         refine q1 _ ?_
         exact nR []
        obtain ⟨r38, kr38, hr⟩ := mapE (o := some (Br.ret false)) (g := Sum.inr) h
        subst hr
        have h := kr38
        obtain ⟨r39, kr39, hr⟩ := mapE (o := some false) (g := Br.ret) h
        subst hr
        have h := kr39
        have hh := Option.some.inj h
        subst hh
        refine NWp.ret ?_
        refine And.intro (fun hn => nomatch hn) ?_
        intro hq
        have hq := hq.symm
        subst hq
        refine And.intro (fun hn => nomatch hn) ?_
        intro hq
        have hq := hq.symm
        subst hq
        show FQ _ _ _ _
        exact FQ.mk1 (.inr rfl) (res_t (v := vb false) rfl rfl) (RV.d trivial)
       ·
        replace h := iteF hc37 h
        refine NWp.condF (t := (r36.1 != r35.2)) rfl hc37 ?_
        refine NWp.skip ?_
        have hh := Option.some.inj h
        subst hh
        refine NWp.opsE ⟨tab [(7, .ptr 0 0 0), (9, .ptr 1 0 0), (10, .ptr 4 0 0), (49, vl5 a2), (50, vi (a2.length : Int)), (51, vi i16)], stab [(0, .var [vl1 r6.1.Events, vl0 r6.1.Sets, .d (eL none (eL none (D.int .u16)) r6.1.States)]), (1, .var [vl1 r36.2.n_.Events, vl0 r36.2.n_.Sets, .d (eL none (eL none (D.int .u16)) r36.2.n_.States), .d (.int .u64 r36.2.known), .loc 2 0 r36.2.peers.length, .loc 3 0 r36.2.order.length]), (2, .lst true (some 2) (List.map ectrl_peer r36.2.peers)), (3, .lst false none (List.map (D.int .i64) r36.2.order)), (4, .var [vl1 r35.1.N.Events, vl0 r35.1.N.Sets, .d (eL none (eL none (D.int .u16)) r35.1.N.States), .d (.int .u64 r35.1.Known), vl0 r35.1.Heard, vl0 r35.1.Told, vl2 r35.1.Order])], 5⟩ ?_ ?_
        ·
         refine step (v := vs3 r35.1) (st_ldV (ds := [eL (some 2) eapi_Event r35.1.N.Events, eL none (D.int .u64) r35.1.N.Sets, eL none (eL none (D.int .u16)) r35.1.N.States, .int .u64 r35.1.Known, eL none (D.int .u64) r35.1.Heard, eL none (D.int .u64) r35.1.Told, eL none (D.int .i64) r35.1.Order]) rfl rfl (show 7 ≤ 7 by decide) rfl) ?_
         refine step (v := V.undef) (σ' := (upd (stab [(0, .var [vl1 r6.1.Events, vl0 r6.1.Sets, .d (eL none (eL none (D.int .u16)) r6.1.States)]), (1, .var [vl1 r36.2.n_.Events, vl0 r36.2.n_.Sets, .d (eL none (eL none (D.int .u16)) r36.2.n_.States), .d (.int .u64 r36.2.known), .loc 2 0 r36.2.peers.length, .loc 3 0 r36.2.order.length]), (2, .lst true (some 2) (List.map ectrl_peer r36.2.peers)), (3, .lst false none (List.map (D.int .i64) r36.2.order)), (4, .var [vl1 y17.N.Events, vl0 y17.N.Sets, .d (eL none (eL none (D.int .u16)) y17.N.States), .d (.int .u64 y17.Known), vl0 y17.Heard, vl0 y17.Told, vl2 y17.Order]), (5, .var [vl1 r35.1.N.Events, vl0 r35.1.N.Sets, .d (eL none (eL none (D.int .u16)) r35.1.N.States), .d (.int .u64 r35.1.Known), vl0 r35.1.Heard, vl0 r35.1.Told, vl2 r35.1.Order])]) 4 (some (.var [vl1 r35.1.N.Events, vl0 r35.1.N.Sets, .d (eL none (eL none (D.int .u16)) r35.1.N.States), .d (.int .u64 r35.1.Known), vl0 r35.1.Heard, vl0 r35.1.Told, vl2 r35.1.Order])))) (n' := 6) rfl ?_
         exact nR [0, 1, 2, 3, 4]
        exact And.intro rfl rfl
     ·
      intro r' hq
      subst hq
      exact Option.some.inj h
     rintro ⟨y38, y39, y40, y41, l42, l43, y44⟩ rfl
     show NWp _ _ _ _ _ ⟨tab [(7, .ptr 0 0 0), (9, .ptr 1 0 0), (10, .ptr 4 0 0), (49, vl5 a2), (50, vi (a2.length : Int)), (51, vi i16)], stab [(0, .var [vl1 r6.1.Events, vl0 r6.1.Sets, .d (eL none (eL none (D.int .u16)) r6.1.States)]), (1, .var [vl1 y38, vl0 y39, .d (eL none (eL none (D.int .u16)) y40), .d (.int .u64 y41), .loc 2 0 l42.length, .loc 3 0 l43.length]), (2, .lst true (some 2) (List.map ectrl_peer l42)), (3, .lst false none (List.map (D.int .i64) l43)), (4, .var [vl1 y44.N.Events, vl0 y44.N.Sets, .d (eL none (eL none (D.int .u16)) y44.N.States), .d (.int .u64 y44.Known), vl0 y44.Heard, vl0 y44.Told, vl2 y44.Order])], 5⟩
     obtain ⟨r46, hr46, h⟩ := bindE h
     refine NWp.opsJ ⟨tab [(7, .ptr 0 0 0), (9, .ptr 1 0 0), (10, .ptr 4 0 0), (21, .loc 5 0 r46.1.length), (49, vl5 a2), (50, vi (a2.length : Int)), (51, vi i16)], stab [(0, .var [vl1 r6.1.Events, vl0 r6.1.Sets, .d (eL none (eL none (D.int .u16)) r6.1.States)]), (1, .var [vl1 r46.2.n_.Events, vl0 r46.2.n_.Sets, .d (eL none (eL none (D.int .u16)) r46.2.n_.States), .d (.int .u64 r46.2.known), .loc 2 0 r46.2.peers.length, .loc 3 0 r46.2.order.length]), (2, .lst true (some 2) (List.map ectrl_peer r46.2.peers)), (3, .lst false none (List.map (D.int .i64) r46.2.order)), (4, .var [vl1 y44.N.Events, vl0 y44.N.Sets, .d (eL none (eL none (D.int .u16)) y44.N.States), .d (.int .u64 y44.Known), vl0 y44.Heard, vl0 y44.Told, vl2 y44.Order]), (5, .lst true none (List.map (D.int .i64) r46.1))], 6⟩ ?_ ?_
     ·
      refine q1 _ ?_
      refine stepW (v := .loc 5 0 r46.1.length) (σ' := (upd (upd (upd (upd (upd (upd (upd (stab [(0, .var [vl1 r6.1.Events, vl0 r6.1.Sets, .d (eL none (eL none (D.int .u16)) r6.1.States)]), (1, .var [vl1 y38, vl0 y39, .d (eL none (eL none (D.int .u16)) y40), .d (.int .u64 y41), .loc 2 0 l42.length, .loc 3 0 l43.length]), (2, .lst true (some 2) (List.map ectrl_peer l42)), (3, .lst false none (List.map (D.int .i64) l43)), (4, .var [vl1 y44.N.Events, vl0 y44.N.Sets, .d (eL none (eL none (D.int .u16)) y44.N.States), .d (.int .u64 y44.Known), vl0 y44.Heard, vl0 y44.Told, vl2 y44.Order])]) 3 none) 2 none) 1 none) 5 (some (.lst true none (List.map (D.int .i64) r46.1)))) 3 (some (.lst false none (List.map (D.int .i64) r46.2.order)))) 2 (some (.lst true (some 2) (List.map ectrl_peer r46.2.peers)))) 1 (some (.var [vl1 r46.2.n_.Events, vl0 r46.2.n_.Sets, .d (eL none (eL none (D.int .u16)) r46.2.n_.States), .d (.int .u64 r46.2.known), .loc 2 0 r46.2.peers.length, .loc 3 0 r46.2.order.length])))) (n' := 6) (SCall.lift [1, 2, 3] (c_ctrl_Ctrl_Order hr46) (show 3 ≤ 4 by decide) (by decide) (show ∀ i ∈ [1, 2, 3], i < 5 by decide) (dom_c (show 0 < 4 by decide) (dom_c (show 1 < 4 by decide) (dom_c (show 2 < 4 by decide) (dom_c (show 3 < 4 by decide) dom_n)))) (VNs.c (.pt 0) VNs.nil0) (SN.c (show 0 < 3 by decide) rfl (.vars (VNs.c (.d _) (VNs.c (.d _) (VNs.c (.d _) (VNs.c (.d _) (VNs.c (.lc 1) (VNs.c (.lc 2) VNs.nil0))))))) (SN.c (show 1 < 3 by decide) rfl (.lst _ _ _) (SN.c (show 2 < 3 by decide) rfl (.lst _ _ _) SN.nil0)))) (show 5 ≤ 6 by decide) ?_
      refine q1 _ ?_
      exact nR [0, 1, 2, 3, 4, 5]
     refine NWp.seq ?_
     obtain ⟨r47, hr47, h⟩ := bindE h
     obtain ⟨y52, hv, h⟩ := bindE h
     refine NWp.opsSJ ⟨tab [(7, .ptr 0 0 0), (9, .ptr 1 0 0), (10, .ptr 4 0 0), (21, .loc 5 0 r46.1.length), (49, vl5 a2), (50, vi (a2.length : Int)), (51, vi i16), (143, vb y52)], stab [(0, .var [vl1 r6.1.Events, vl0 r6.1.Sets, .d (eL none (eL none (D.int .u16)) r6.1.States)]), (1, .var [vl1 r46.2.n_.Events, vl0 r46.2.n_.Sets, .d (eL none (eL none (D.int .u16)) r46.2.n_.States), .d (.int .u64 r46.2.known), .loc 2 0 r46.2.peers.length, .loc 3 0 r46.2.order.length]), (2, .lst true (some 2) (List.map ectrl_peer r46.2.peers)), (3, .lst false none (List.map (D.int .i64) r46.2.order)), (4, .var [vl1 y44.N.Events, vl0 y44.N.Sets, .d (eL none (eL none (D.int .u16)) y44.N.States), .d (.int .u64 y44.Known), vl0 y44.Heard, vl0 y44.Told, vl2 y44.Order]), (5, .lst true none (List.map (D.int .i64) r46.1))], 6⟩ ?_ ?_
     ·
      refine stepL [] [] (v := .ptr 1 0 0) rfl rfl rfl ?_
      refine stepLW (σ' := (stab [(0, .var [vl1 r6.1.Events, vl0 r6.1.Sets, .d (eL none (eL none (D.int .u16)) r6.1.States)]), (1, .var [vl1 r46.2.n_.Events, vl0 r46.2.n_.Sets, .d (eL none (eL none (D.int .u16)) r46.2.n_.States), .d (.int .u64 r46.2.known), .loc 2 0 r46.2.peers.length, .loc 3 0 r46.2.order.length]), (2, .lst true (some 2) (List.map ectrl_peer r46.2.peers)), (3, .lst false none (List.map (D.int .i64) r46.2.order)), (4, .var [vl1 y44.N.Events, vl0 y44.N.Sets, .d (eL none (eL none (D.int .u16)) y44.N.States), .d (.int .u64 y44.Known), vl0 y44.Heard, vl0 y44.Told, vl2 y44.Order]), (5, .lst true none (List.map (D.int .i64) r46.1))])) (R := [1, 2, 3]) (W := []) (PCall.fborrow (c_ctrl_Ctrl_Known hr47) rfl [(1, .var [vl1 r46.2.n_.Events, vl0 r46.2.n_.Sets, .d (eL none (eL none (D.int .u16)) r46.2.n_.States), .d (.int .u64 r46.2.known), .loc 2 0 r46.2.peers.length, .loc 3 0 r46.2.order.length]), (2, .lst true (some 2) (List.map ectrl_peer r46.2.peers)), (3, .lst false none (List.map (D.int .i64) r46.2.order))] (ViewsB.c (viewB_var rfl (ViewsB.c (.d _) (ViewsB.c (.d _) (ViewsB.c (.d _) (ViewsB.c (.d _) (ViewsB.c (viewB_all (xs := r46.2.peers) (e := ectrl_peer) rfl rfl) (ViewsB.c (viewB_all (xs := r46.2.order) (e := (D.int .i64)) rfl rfl) ViewsB.nil0))))))) ViewsB.nil0)) ⟨rfl, rfl, rfl, trivial⟩ rfl rfl rfl ?_
      refine stepL [] [] (v := .ptr 4 0 3) rfl rfl rfl ?_
      refine stepL [4] [] (v := .d (.int .u64 y44.Known)) rfl rfl rfl ?_
      refine stepL [] [] (v := vb (r47 != y44.Known)) rfl rfl rfl ?_
      refine stepL [] [] (v := vb (r47 != y44.Known)) rfl rfl rfl ?_
      by_cases hg48 : (r47 != y44.Known) = true
      ·
       replace hv := iteT hg48 hv
       refine stepLX (c := (r47 != y44.Known)) rfl (by rw [hg48]; decide) ?_
       refine stepLX (c := (r47 != y44.Known)) rfl (by rw [hg48]; decide) ?_
       refine stepLX (c := (r47 != y44.Known)) rfl (by rw [hg48]; decide) ?_
       refine stepLX (c := (r47 != y44.Known)) rfl (by rw [hg48]; decide) ?_
       refine stepLX (c := (r47 != y44.Known)) rfl (by rw [hg48]; decide) ?_
       refine stepLX (c := (r47 != y44.Known)) rfl (by rw [hg48]; decide) ?_
       refine stepL [] [] (v := vb true) (st_pickT (b := (r47 != y44.Known)) rfl hg48 rfl) rfl rfl ?_
       refine stepL [] [] (v := vb true) rfl rfl rfl ?_
       refine stepLX (c := true) rfl (by decide) ?_
       refine stepLX (c := true) rfl (by decide) ?_
       refine stepLX (c := true) rfl (by decide) ?_
       refine stepLX (c := true) rfl (by decide) ?_
       refine stepLX (c := true) rfl (by decide) ?_
       refine stepLX (c := true) rfl (by decide) ?_
       refine stepLX (c := true) rfl (by decide) ?_
       refine stepLX (c := true) rfl (by decide) ?_
       refine stepL [] [] (v := vb true) (st_pickT (b := true) rfl rfl rfl) rfl rfl ?_
       have hh := Option.some.inj hv
       subst hh
       exact RunOpsL.nil' ⟨by decide, nr [0, 1, 2, 3, 4, 5]⟩
      ·
       replace hv := iteF hg48 hv
       refine stepLG (c := (r47 != y44.Known)) rfl (Bool.eq_false_iff.2 hg48) ?_
       refine stepL [] [] (v := .loc 5 0 r46.1.length) rfl rfl rfl ?_
       refine stepLG (c := (r47 != y44.Known)) rfl (Bool.eq_false_iff.2 hg48) ?_
       refine stepL [] [] (v := vi (r46.1.length : Int)) rfl rfl rfl ?_
       refine stepLG (c := (r47 != y44.Known)) rfl (Bool.eq_false_iff.2 hg48) ?_
       refine stepL [] [] (v := .ptr 4 0 6) rfl rfl rfl ?_
       refine stepLG (c := (r47 != y44.Known)) rfl (Bool.eq_false_iff.2 hg48) ?_
       refine stepL [4] [] (v := vl2 y44.Order) rfl rfl rfl ?_
       refine stepLG (c := (r47 != y44.Known)) rfl (Bool.eq_false_iff.2 hg48) ?_
       refine stepL [] [] (v := vi (y44.Order.length : Int)) (st_len (xs := y44.Order) (e := (D.int .i64)) rfl) rfl rfl ?_
       refine stepLG (c := (r47 != y44.Known)) rfl (Bool.eq_false_iff.2 hg48) ?_
       refine stepL [] [] (v := vb ((r46.1.length : Int) != (y44.Order.length : Int))) rfl rfl rfl ?_
       refine stepL [] [] (v := vb ((r46.1.length : Int) != (y44.Order.length : Int))) (st_pickF (b := (r47 != y44.Known)) rfl hg48 rfl) rfl rfl ?_
       refine stepL [] [] (v := vb ((r46.1.length : Int) != (y44.Order.length : Int))) rfl rfl rfl ?_
       by_cases hg49 : ((r46.1.length : Int) != (y44.Order.length : Int)) = true
       ·
        replace hv := iteT hg49 hv
        refine stepLX (c := ((r46.1.length : Int) != (y44.Order.length : Int))) rfl (by rw [hg49]; decide) ?_
        refine stepLX (c := ((r46.1.length : Int) != (y44.Order.length : Int))) rfl (by rw [hg49]; decide) ?_
        refine stepLX (c := ((r46.1.length : Int) != (y44.Order.length : Int))) rfl (by rw [hg49]; decide) ?_
        refine stepLX (c := ((r46.1.length : Int) != (y44.Order.length : Int))) rfl (by rw [hg49]; decide) ?_
        refine stepLX (c := ((r46.1.length : Int) != (y44.Order.length : Int))) rfl (by rw [hg49]; decide) ?_
        refine stepLX (c := ((r46.1.length : Int) != (y44.Order.length : Int))) rfl (by rw [hg49]; decide) ?_
        refine stepLX (c := ((r46.1.length : Int) != (y44.Order.length : Int))) rfl (by rw [hg49]; decide) ?_
        refine stepLX (c := ((r46.1.length : Int) != (y44.Order.length : Int))) rfl (by rw [hg49]; decide) ?_
        refine stepL [] [] (v := vb true) (st_pickT (b := ((r46.1.length : Int) != (y44.Order.length : Int))) rfl hg49 rfl) rfl rfl ?_
        have hh := Option.some.inj hv
        subst hh
        exact RunOpsL.nil' ⟨by decide, nr [0, 1, 2, 3, 4, 5]⟩
       ·
        replace hv := iteF hg49 hv
        obtain ⟨r50, hr50, hv⟩ := bindE hv
        obtain ⟨r51, hr51, hv⟩ := bindE hv
        refine stepLG (c := ((r46.1.length : Int) != (y44.Order.length : Int))) rfl (Bool.eq_false_iff.2 hg49) ?_
        refine stepL [] [] (v := .ptr 1 0 0) rfl rfl rfl ?_
        refine stepLG (c := ((r46.1.length : Int) != (y44.Order.length : Int))) rfl (Bool.eq_false_iff.2 hg49) ?_
        refine stepLW (σ' := (stab [(0, .var [vl1 r6.1.Events, vl0 r6.1.Sets, .d (eL none (eL none (D.int .u16)) r6.1.States)]), (1, .var [vl1 r46.2.n_.Events, vl0 r46.2.n_.Sets, .d (eL none (eL none (D.int .u16)) r46.2.n_.States), .d (.int .u64 r46.2.known), .loc 2 0 r46.2.peers.length, .loc 3 0 r46.2.order.length]), (2, .lst true (some 2) (List.map ectrl_peer r46.2.peers)), (3, .lst false none (List.map (D.int .i64) r46.2.order)), (4, .var [vl1 y44.N.Events, vl0 y44.N.Sets, .d (eL none (eL none (D.int .u16)) y44.N.States), .d (.int .u64 y44.Known), vl0 y44.Heard, vl0 y44.Told, vl2 y44.Order]), (5, .lst true none (List.map (D.int .i64) r46.1))])) (R := [1, 2, 3]) (W := []) (PCall.fborrow (c_ctrl_Ctrl_Tag hr50) rfl [(1, .var [vl1 r46.2.n_.Events, vl0 r46.2.n_.Sets, .d (eL none (eL none (D.int .u16)) r46.2.n_.States), .d (.int .u64 r46.2.known), .loc 2 0 r46.2.peers.length, .loc 3 0 r46.2.order.length]), (2, .lst true (some 2) (List.map ectrl_peer r46.2.peers)), (3, .lst false none (List.map (D.int .i64) r46.2.order))] (ViewsB.c (viewB_var rfl (ViewsB.c (.d _) (ViewsB.c (.d _) (ViewsB.c (.d _) (ViewsB.c (.d _) (ViewsB.c (viewB_all (xs := r46.2.peers) (e := ectrl_peer) rfl rfl) (ViewsB.c (viewB_all (xs := r46.2.order) (e := (D.int .i64)) rfl rfl) ViewsB.nil0))))))) ViewsB.nil0)) ⟨rfl, rfl, rfl, trivial⟩ rfl rfl rfl ?_
        refine stepLG (c := ((r46.1.length : Int) != (y44.Order.length : Int))) rfl (Bool.eq_false_iff.2 hg49) ?_
        refine stepL [] [] (v := vi (IntKind.i64.wrap r50)) rfl rfl rfl ?_
        refine stepLG (c := ((r46.1.length : Int) != (y44.Order.length : Int))) rfl (Bool.eq_false_iff.2 hg49) ?_
        refine stepL [0] [] (v := vs1 r6.1) (st_ldV (ds := [eL (some 2) eapi_Event r6.1.Events, eL none (D.int .u64) r6.1.Sets, eL none (eL none (D.int .u16)) r6.1.States]) rfl rfl (show 3 ≤ 3 by decide) rfl) rfl rfl ?_
        refine stepLG (c := ((r46.1.length : Int) != (y44.Order.length : Int))) rfl (Bool.eq_false_iff.2 hg49) ?_
        refine stepL [] [] (v := .ptr 4 0 3) rfl rfl rfl ?_
        refine stepLG (c := ((r46.1.length : Int) != (y44.Order.length : Int))) rfl (Bool.eq_false_iff.2 hg49) ?_
        refine stepL [4] [] (v := .d (.int .u64 y44.Known)) rfl rfl rfl ?_
        refine stepLG (c := ((r46.1.length : Int) != (y44.Order.length : Int))) rfl (Bool.eq_false_iff.2 hg49) ?_
        refine stepLC (r := .int .i64 r51) [] (ArgsOk.dt (ArgsOk.dt ArgsOk.nil')) (c_ref12_Tag hr51) rfl ?_
        refine stepLG (c := ((r46.1.length : Int) != (y44.Order.length : Int))) rfl (Bool.eq_false_iff.2 hg49) ?_
        refine stepL [] [] (v := vb ((IntKind.i64.wrap r50) != r51)) rfl rfl rfl ?_
        refine stepL [] [] (v := vb ((IntKind.i64.wrap r50) != r51)) (st_pickF (b := ((r46.1.length : Int) != (y44.Order.length : Int))) rfl hg49 rfl) rfl rfl ?_
        have hh := Option.some.inj hv
        subst hh
        exact RunOpsL.nil' ⟨by decide, nr [0, 1, 2, 3, 4, 5]⟩
     by_cases hc54 : y52 = true
     ·
      replace h := iteT hc54 h
      refine NWp.condT (t := y52) rfl hc54 ?_
      refine NWp.opsJ ⟨tab [(6, vb false)], stab [], 0⟩ ?_ ?_
      ·
       refine q1 _ ?_
       exact nR []
      obtain ⟨r55, kr55, hr⟩ := mapE (o := some false) (g := Br.ret) h
      subst hr
      have h := kr55
      have hh := Option.some.inj h
      subst hh
      refine NWp.ret ?_
      refine And.intro (fun hn => nomatch hn) ?_
      intro hq
      have hq := hq.symm
      subst hq
      show FQ _ _ _ _
      exact FQ.mk1 (.inr rfl) (res_t (v := vb false) rfl rfl) (RV.d trivial)
     ·
      replace h := iteF hc54 h
      refine NWp.condF (t := y52) rfl hc54 ?_
      refine NWp.skip ?_
      refine NWp.seq ?_
      refine NWp.opsJ ⟨tab [(7, .ptr 0 0 0), (9, .ptr 1 0 0), (10, .ptr 4 0 0), (21, .loc 5 0 r46.1.length), (49, vl5 a2), (50, vi (a2.length : Int)), (51, vi i16), (145, vi (r46.1.length : Int)), (146, vi 0)], stab [(0, .var [vl1 r6.1.Events, vl0 r6.1.Sets, .d (eL none (eL none (D.int .u16)) r6.1.States)]), (1, .var [vl1 r46.2.n_.Events, vl0 r46.2.n_.Sets, .d (eL none (eL none (D.int .u16)) r46.2.n_.States), .d (.int .u64 r46.2.known), .loc 2 0 r46.2.peers.length, .loc 3 0 r46.2.order.length]), (2, .lst true (some 2) (List.map ectrl_peer r46.2.peers)), (3, .lst false none (List.map (D.int .i64) r46.2.order)), (4, .var [vl1 y44.N.Events, vl0 y44.N.Sets, .d (eL none (eL none (D.int .u16)) y44.N.States), .d (.int .u64 y44.Known), vl0 y44.Heard, vl0 y44.Told, vl2 y44.Order]), (5, .lst true none (List.map (D.int .i64) r46.1))], 6⟩ ?_ ?_
      ·
       iterate 3 refine q1 _ ?_
       exact nR [0, 1, 2, 3, 4, 5]
      obtain ⟨q72, hl, h⟩ := bindE h
      refine NWp.block ?_
      refine loop_forR (cntU (r46.1.length : Int)) (fun (i55 : Int) (qq : Unit) => ⟨tab [(7, .ptr 0 0 0), (9, .ptr 1 0 0), (10, .ptr 4 0 0), (21, .loc 5 0 r46.1.length), (49, vl5 a2), (50, vi (a2.length : Int)), (51, vi i16), (145, vi (r46.1.length : Int)), (146, vi i55)], stab [(0, .var [vl1 r6.1.Events, vl0 r6.1.Sets, .d (eL none (eL none (D.int .u16)) r6.1.States)]), (1, .var [vl1 r46.2.n_.Events, vl0 r46.2.n_.Sets, .d (eL none (eL none (D.int .u16)) r46.2.n_.States), .d (.int .u64 r46.2.known), .loc 2 0 r46.2.peers.length, .loc 3 0 r46.2.order.length]), (2, .lst true (some 2) (List.map ectrl_peer r46.2.peers)), (3, .lst false none (List.map (D.int .i64) r46.2.order)), (4, .var [vl1 y44.N.Events, vl0 y44.N.Sets, .d (eL none (eL none (D.int .u16)) y44.N.States), .d (.int .u64 y44.Known), vl0 y44.Heard, vl0 y44.Told, vl2 y44.Order]), (5, .lst true none (List.map (D.int .i64) r46.1))], 6⟩) 2 (fun (qq : Unit) => ⟨tab [(7, .ptr 0 0 0), (9, .ptr 1 0 0), (10, .ptr 4 0 0), (49, vl5 a2), (50, vi (a2.length : Int)), (51, vi i16)], stab [(0, .var [vl1 r6.1.Events, vl0 r6.1.Sets, .d (eL none (eL none (D.int .u16)) r6.1.States)]), (1, .var [vl1 r46.2.n_.Events, vl0 r46.2.n_.Sets, .d (eL none (eL none (D.int .u16)) r46.2.n_.States), .d (.int .u64 r46.2.known), .loc 2 0 r46.2.peers.length, .loc 3 0 r46.2.order.length]), (2, .lst true (some 2) (List.map ectrl_peer r46.2.peers)), (3, .lst false none (List.map (D.int .i64) r46.2.order)), (4, .var [vl1 y44.N.Events, vl0 y44.N.Sets, .d (eL none (eL none (D.int .u16)) y44.N.States), .d (.int .u64 y44.Known), vl0 y44.Heard, vl0 y44.Told, vl2 y44.Order])], 5⟩) Low low_step (r := xr22) hl (by unfold Low; omega) ?_ ?_ ?_ ?_
      ·
       rintro i55 ⟨⟩ xr60 hinv58 hgo57 h
       show NWp _ _ _ _ _ ⟨tab [(7, .ptr 0 0 0), (9, .ptr 1 0 0), (10, .ptr 4 0 0), (21, .loc 5 0 r46.1.length), (49, vl5 a2), (50, vi (a2.length : Int)), (51, vi i16), (145, vi (r46.1.length : Int)), (146, vi i55)], stab [(0, .var [vl1 r6.1.Events, vl0 r6.1.Sets, .d (eL none (eL none (D.int .u16)) r6.1.States)]), (1, .var [vl1 r46.2.n_.Events, vl0 r46.2.n_.Sets, .d (eL none (eL none (D.int .u16)) r46.2.n_.States), .d (.int .u64 r46.2.known), .loc 2 0 r46.2.peers.length, .loc 3 0 r46.2.order.length]), (2, .lst true (some 2) (List.map ectrl_peer r46.2.peers)), (3, .lst false none (List.map (D.int .i64) r46.2.order)), (4, .var [vl1 y44.N.Events, vl0 y44.N.Sets, .d (eL none (eL none (D.int .u16)) y44.N.States), .d (.int .u64 y44.Known), vl0 y44.Heard, vl0 y44.Told, vl2 y44.Order]), (5, .lst true none (List.map (D.int .i64) r46.1))], 6⟩
       have hc59 : decide (i55 < (r46.1.length : Int)) = true := decide_eq_true hgo57
       refine NWp.opsJ ⟨tab [(7, .ptr 0 0 0), (9, .ptr 1 0 0), (10, .ptr 4 0 0), (21, .loc 5 0 r46.1.length), (49, vl5 a2), (50, vi (a2.length : Int)), (51, vi i16), (145, vi (r46.1.length : Int)), (146, vi i55), (147, vb (decide (i55 < (r46.1.length : Int))))], stab [(0, .var [vl1 r6.1.Events, vl0 r6.1.Sets, .d (eL none (eL none (D.int .u16)) r6.1.States)]), (1, .var [vl1 r46.2.n_.Events, vl0 r46.2.n_.Sets, .d (eL none (eL none (D.int .u16)) r46.2.n_.States), .d (.int .u64 r46.2.known), .loc 2 0 r46.2.peers.length, .loc 3 0 r46.2.order.length]), (2, .lst true (some 2) (List.map ectrl_peer r46.2.peers)), (3, .lst false none (List.map (D.int .i64) r46.2.order)), (4, .var [vl1 y44.N.Events, vl0 y44.N.Sets, .d (eL none (eL none (D.int .u16)) y44.N.States), .d (.int .u64 y44.Known), vl0 y44.Heard, vl0 y44.Told, vl2 y44.Order]), (5, .lst true none (List.map (D.int .i64) r46.1))], 6⟩ ?_ ?_
       ·
        refine q1 _ ?_
        exact nR [0, 1, 2, 3, 4, 5]
       refine NWp.rng 145 rfl fun hB56 => ?_
       refine NWp.seq ?_
       refine NWp.condT (t := decide (i55 < (r46.1.length : Int))) rfl hc59 ?_
       refine NWp.skip ?_
       refine NWp.seq ?_
       refine NWp.block ?_
       refine NWp.opsJ ⟨tab [(7, .ptr 0 0 0), (9, .ptr 1 0 0), (10, .ptr 4 0 0), (21, .loc 5 0 r46.1.length), (22, vi i55), (49, vl5 a2), (50, vi (a2.length : Int)), (51, vi i16), (145, vi (r46.1.length : Int)), (146, vi i55)], stab [(0, .var [vl1 r6.1.Events, vl0 r6.1.Sets, .d (eL none (eL none (D.int .u16)) r6.1.States)]), (1, .var [vl1 r46.2.n_.Events, vl0 r46.2.n_.Sets, .d (eL none (eL none (D.int .u16)) r46.2.n_.States), .d (.int .u64 r46.2.known), .loc 2 0 r46.2.peers.length, .loc 3 0 r46.2.order.length]), (2, .lst true (some 2) (List.map ectrl_peer r46.2.peers)), (3, .lst false none (List.map (D.int .i64) r46.2.order)), (4, .var [vl1 y44.N.Events, vl0 y44.N.Sets, .d (eL none (eL none (D.int .u16)) y44.N.States), .d (.int .u64 y44.Known), vl0 y44.Heard, vl0 y44.Told, vl2 y44.Order]), (5, .lst true none (List.map (D.int .i64) r46.1))], 6⟩ ?_ ?_
       ·
        iterate 2 refine q1 _ ?_
        exact nR [0, 1, 2, 3, 4, 5]
       obtain ⟨x61, hx61, h⟩ := bindE h
       obtain ⟨x62, hx62, h⟩ := bindE h
       refine NWp.opsJ ⟨tab [(7, .ptr 0 0 0), (9, .ptr 1 0 0), (10, .ptr 4 0 0), (21, .loc 5 0 r46.1.length), (49, vl5 a2), (50, vi (a2.length : Int)), (51, vi i16), (145, vi (r46.1.length : Int)), (146, vi i55), (158, vb (x61 != x62))], stab [(0, .var [vl1 r6.1.Events, vl0 r6.1.Sets, .d (eL none (eL none (D.int .u16)) r6.1.States)]), (1, .var [vl1 r46.2.n_.Events, vl0 r46.2.n_.Sets, .d (eL none (eL none (D.int .u16)) r46.2.n_.States), .d (.int .u64 r46.2.known), .loc 2 0 r46.2.peers.length, .loc 3 0 r46.2.order.length]), (2, .lst true (some 2) (List.map ectrl_peer r46.2.peers)), (3, .lst false none (List.map (D.int .i64) r46.2.order)), (4, .var [vl1 y44.N.Events, vl0 y44.N.Sets, .d (eL none (eL none (D.int .u16)) y44.N.States), .d (.int .u64 y44.Known), vl0 y44.Heard, vl0 y44.Told, vl2 y44.Order]), (5, .lst true none (List.map (D.int .i64) r46.1))], 6⟩ ?_ ?_
       ·
        iterate 2 refine q1 _ ?_
        refine step (v := .ptr 5 i55.toNat 0) (st_iaddrL (xs := r46.1) (e := (D.int .i64)) hx61 rfl rfl rfl rfl) ?_
        refine step (v := vi x61) (st_loadL (xs := r46.1) (e := (D.int .i64)) hx61 rfl rfl rfl) ?_
        iterate 3 refine q1 _ ?_
        refine step (v := .d (.cptr none (.int .i64 x62) 0)) (st_iaddr (xs := y44.Order) (e := (D.int .i64)) hx62 rfl rfl) ?_
        iterate 2 refine q1 _ ?_
        exact nR [0, 1, 2, 3, 4, 5]
       by_cases hc63 : (x61 != x62) = true
       ·
        replace h := iteT hc63 h
        refine NWp.condT (t := (x61 != x62)) rfl hc63 ?_
        refine NWp.opsJ ⟨tab [(6, vb false)], stab [], 0⟩ ?_ ?_
        ·
         refine q1 _ ?_
         exact nR []
        obtain ⟨r64, kr64, hr⟩ := mapE (o := some (Br.ret false)) (g := Br.ret) h
        subst hr
        have h := kr64
        obtain ⟨r65, kr65, hr⟩ := mapE (o := some false) (g := Br.ret) h
        subst hr
        have h := kr65
        have hh := Option.some.inj h
        subst hh
        refine NWp.ret ?_
        refine And.intro (fun hn => nomatch hn) ?_
        intro hq
        have hq := hq.symm
        subst hq
        refine And.intro (fun hn => nomatch hn) ?_
        intro hq
        have hq := hq.symm
        subst hq
        show FQ _ _ _ _
        exact FQ.mk1 (.inr rfl) (res_t (v := vb false) rfl rfl) (RV.d trivial)
       ·
        replace h := iteF hc63 h
        refine NWp.condF (t := (x61 != x62)) rfl hc63 ?_
        refine NWp.skip ?_
        have hh := Option.some.inj h
        subst hh
        refine NWp.opsE ⟨tab [(7, .ptr 0 0 0), (9, .ptr 1 0 0), (10, .ptr 4 0 0), (21, .loc 5 0 r46.1.length), (49, vl5 a2), (50, vi (a2.length : Int)), (51, vi i16), (145, vi (r46.1.length : Int)), (146, vi (i55 + 1))], stab [(0, .var [vl1 r6.1.Events, vl0 r6.1.Sets, .d (eL none (eL none (D.int .u16)) r6.1.States)]), (1, .var [vl1 r46.2.n_.Events, vl0 r46.2.n_.Sets, .d (eL none (eL none (D.int .u16)) r46.2.n_.States), .d (.int .u64 r46.2.known), .loc 2 0 r46.2.peers.length, .loc 3 0 r46.2.order.length]), (2, .lst true (some 2) (List.map ectrl_peer r46.2.peers)), (3, .lst false none (List.map (D.int .i64) r46.2.order)), (4, .var [vl1 y44.N.Events, vl0 y44.N.Sets, .d (eL none (eL none (D.int .u16)) y44.N.States), .d (.int .u64 y44.Known), vl0 y44.Heard, vl0 y44.Told, vl2 y44.Order]), (5, .lst true none (List.map (D.int .i64) r46.1))], 6⟩ ?_ ?_
        ·
         refine step (v := vi (i55 + 1)) (st_inc (inc_ok hinv58 hgo57 hB56) rfl rfl) ?_
         refine q1 _ ?_
         exact nR [0, 1, 2, 3, 4, 5]
        exact And.intro rfl rfl
      ·
       rintro i55 ⟨⟩ hinv58 hgo57
       show NWp _ _ _ _ _ ⟨tab [(7, .ptr 0 0 0), (9, .ptr 1 0 0), (10, .ptr 4 0 0), (21, .loc 5 0 r46.1.length), (49, vl5 a2), (50, vi (a2.length : Int)), (51, vi i16), (145, vi (r46.1.length : Int)), (146, vi i55)], stab [(0, .var [vl1 r6.1.Events, vl0 r6.1.Sets, .d (eL none (eL none (D.int .u16)) r6.1.States)]), (1, .var [vl1 r46.2.n_.Events, vl0 r46.2.n_.Sets, .d (eL none (eL none (D.int .u16)) r46.2.n_.States), .d (.int .u64 r46.2.known), .loc 2 0 r46.2.peers.length, .loc 3 0 r46.2.order.length]), (2, .lst true (some 2) (List.map ectrl_peer r46.2.peers)), (3, .lst false none (List.map (D.int .i64) r46.2.order)), (4, .var [vl1 y44.N.Events, vl0 y44.N.Sets, .d (eL none (eL none (D.int .u16)) y44.N.States), .d (.int .u64 y44.Known), vl0 y44.Heard, vl0 y44.Told, vl2 y44.Order]), (5, .lst true none (List.map (D.int .i64) r46.1))], 6⟩
       have hc59 : ¬ (decide (i55 < (r46.1.length : Int)) = true) := fun hq => hgo57 (of_decide_eq_true hq)
       refine NWp.opsJ ⟨tab [(7, .ptr 0 0 0), (9, .ptr 1 0 0), (10, .ptr 4 0 0), (21, .loc 5 0 r46.1.length), (49, vl5 a2), (50, vi (a2.length : Int)), (51, vi i16), (145, vi (r46.1.length : Int)), (146, vi i55), (147, vb (decide (i55 < (r46.1.length : Int))))], stab [(0, .var [vl1 r6.1.Events, vl0 r6.1.Sets, .d (eL none (eL none (D.int .u16)) r6.1.States)]), (1, .var [vl1 r46.2.n_.Events, vl0 r46.2.n_.Sets, .d (eL none (eL none (D.int .u16)) r46.2.n_.States), .d (.int .u64 r46.2.known), .loc 2 0 r46.2.peers.length, .loc 3 0 r46.2.order.length]), (2, .lst true (some 2) (List.map ectrl_peer r46.2.peers)), (3, .lst false none (List.map (D.int .i64) r46.2.order)), (4, .var [vl1 y44.N.Events, vl0 y44.N.Sets, .d (eL none (eL none (D.int .u16)) y44.N.States), .d (.int .u64 y44.Known), vl0 y44.Heard, vl0 y44.Told, vl2 y44.Order]), (5, .lst true none (List.map (D.int .i64) r46.1))], 6⟩ ?_ ?_
       ·
        refine q1 _ ?_
        exact nR [0, 1, 2, 3, 4, 5]
       refine NWp.seq ?_
       refine NWp.condF (t := decide (i55 < (r46.1.length : Int))) rfl hc59 ?_
       refine NWp.norm (s0 := ⟨tab [(7, .ptr 0 0 0), (9, .ptr 1 0 0), (10, .ptr 4 0 0), (49, vl5 a2), (50, vi (a2.length : Int)), (51, vi i16)], stab [(0, .var [vl1 r6.1.Events, vl0 r6.1.Sets, .d (eL none (eL none (D.int .u16)) r6.1.States)]), (1, .var [vl1 r46.2.n_.Events, vl0 r46.2.n_.Sets, .d (eL none (eL none (D.int .u16)) r46.2.n_.States), .d (.int .u64 r46.2.known), .loc 2 0 r46.2.peers.length, .loc 3 0 r46.2.order.length]), (2, .lst true (some 2) (List.map ectrl_peer r46.2.peers)), (3, .lst false none (List.map (D.int .i64) r46.2.order)), (4, .var [vl1 y44.N.Events, vl0 y44.N.Sets, .d (eL none (eL none (D.int .u16)) y44.N.States), .d (.int .u64 y44.Known), vl0 y44.Heard, vl0 y44.Told, vl2 y44.Order])], 5⟩) (nr [0, 1, 2, 3, 4]) ?_
       refine NWp.exit ?_
       exact And.intro rfl rfl
      ·
       intro r' hq
       subst hq
       exact Option.some.inj h
      rintro ⟨⟩ rfl
      refine NWp.opsJ ⟨tab [(7, .ptr 0 0 0), (9, .ptr 1 0 0), (10, .ptr 4 0 0), (23, vi (-1)), (49, vl5 a2), (50, vi (a2.length : Int)), (51, vi i16)], stab [(0, .var [vl1 r6.1.Events, vl0 r6.1.Sets, .d (eL none (eL none (D.int .u16)) r6.1.States)]), (1, .var [vl1 r46.2.n_.Events, vl0 r46.2.n_.Sets, .d (eL none (eL none (D.int .u16)) r46.2.n_.States), .d (.int .u64 r46.2.known), .loc 2 0 r46.2.peers.length, .loc 3 0 r46.2.order.length]), (2, .lst true (some 2) (List.map ectrl_peer r46.2.peers)), (3, .lst false none (List.map (D.int .i64) r46.2.order)), (4, .var [vl1 y44.N.Events, vl0 y44.N.Sets, .d (eL none (eL none (D.int .u16)) y44.N.States), .d (.int .u64 y44.Known), vl0 y44.Heard, vl0 y44.Told, vl2 y44.Order])], 5⟩ ?_ ?_
      ·
       refine q1 _ ?_
       exact nR [0, 1, 2, 3, 4]
      obtain ⟨q71, hl, h⟩ := bindE h
      refine NWp.block ?_
      refine loop_whR (fun (qq : Int) => ⟨tab [(7, .ptr 0 0 0), (9, .ptr 1 0 0), (10, .ptr 4 0 0), (23, vi qq), (49, vl5 a2), (50, vi (a2.length : Int)), (51, vi i16)], stab [(0, .var [vl1 r6.1.Events, vl0 r6.1.Sets, .d (eL none (eL none (D.int .u16)) r6.1.States)]), (1, .var [vl1 r46.2.n_.Events, vl0 r46.2.n_.Sets, .d (eL none (eL none (D.int .u16)) r46.2.n_.States), .d (.int .u64 r46.2.known), .loc 2 0 r46.2.peers.length, .loc 3 0 r46.2.order.length]), (2, .lst true (some 2) (List.map ectrl_peer r46.2.peers)), (3, .lst false none (List.map (D.int .i64) r46.2.order)), (4, .var [vl1 y44.N.Events, vl0 y44.N.Sets, .d (eL none (eL none (D.int .u16)) y44.N.States), .d (.int .u64 y44.Known), vl0 y44.Heard, vl0 y44.Told, vl2 y44.Order])], 5⟩) 4 (fun (qq : Int) => ⟨tab [(7, .ptr 0 0 0), (9, .ptr 1 0 0), (10, .ptr 4 0 0), (49, vl5 a2), (50, vi (a2.length : Int)), (51, vi i16)], stab [(0, .var [vl1 r6.1.Events, vl0 r6.1.Sets, .d (eL none (eL none (D.int .u16)) r6.1.States)]), (1, .var [vl1 r46.2.n_.Events, vl0 r46.2.n_.Sets, .d (eL none (eL none (D.int .u16)) r46.2.n_.States), .d (.int .u64 r46.2.known), .loc 2 0 r46.2.peers.length, .loc 3 0 r46.2.order.length]), (2, .lst true (some 2) (List.map ectrl_peer r46.2.peers)), (3, .lst false none (List.map (D.int .i64) r46.2.order)), (4, .var [vl1 y44.N.Events, vl0 y44.N.Sets, .d (eL none (eL none (D.int .u16)) y44.N.States), .d (.int .u64 y44.Known), vl0 y44.Heard, vl0 y44.Told, vl2 y44.Order])], 5⟩) (r := xr22) hl ?_ ?_ ?_
      ·
       rintro i64 xr65 h
       show NWp _ _ _ _ _ ⟨tab [(7, .ptr 0 0 0), (9, .ptr 1 0 0), (10, .ptr 4 0 0), (23, vi i64), (49, vl5 a2), (50, vi (a2.length : Int)), (51, vi i16)], stab [(0, .var [vl1 r6.1.Events, vl0 r6.1.Sets, .d (eL none (eL none (D.int .u16)) r6.1.States)]), (1, .var [vl1 r46.2.n_.Events, vl0 r46.2.n_.Sets, .d (eL none (eL none (D.int .u16)) r46.2.n_.States), .d (.int .u64 r46.2.known), .loc 2 0 r46.2.peers.length, .loc 3 0 r46.2.order.length]), (2, .lst true (some 2) (List.map ectrl_peer r46.2.peers)), (3, .lst false none (List.map (D.int .i64) r46.2.order)), (4, .var [vl1 y44.N.Events, vl0 y44.N.Sets, .d (eL none (eL none (D.int .u16)) y44.N.States), .d (.int .u64 y44.Known), vl0 y44.Heard, vl0 y44.Told, vl2 y44.Order])], 5⟩
       refine NWp.seq ?_
       refine NWp.opsJ ⟨tab [(7, .ptr 0 0 0), (9, .ptr 1 0 0), (10, .ptr 4 0 0), (23, vi i64), (49, vl5 a2), (50, vi (a2.length : Int)), (51, vi i16), (164, vb (decide (i64 ≤ (y44.Told.length : Int))))], stab [(0, .var [vl1 r6.1.Events, vl0 r6.1.Sets, .d (eL none (eL none (D.int .u16)) r6.1.States)]), (1, .var [vl1 r46.2.n_.Events, vl0 r46.2.n_.Sets, .d (eL none (eL none (D.int .u16)) r46.2.n_.States), .d (.int .u64 r46.2.known), .loc 2 0 r46.2.peers.length, .loc 3 0 r46.2.order.length]), (2, .lst true (some 2) (List.map ectrl_peer r46.2.peers)), (3, .lst false none (List.map (D.int .i64) r46.2.order)), (4, .var [vl1 y44.N.Events, vl0 y44.N.Sets, .d (eL none (eL none (D.int .u16)) y44.N.States), .d (.int .u64 y44.Known), vl0 y44.Heard, vl0 y44.Told, vl2 y44.Order])], 5⟩ ?_ ?_
       ·
        iterate 3 refine q1 _ ?_
        refine step (v := vi (y44.Told.length : Int)) (st_len (xs := y44.Told) (e := (D.int .u64)) rfl) ?_
        refine q1 _ ?_
        exact nR [0, 1, 2, 3, 4]
       by_cases hc66 : decide (i64 ≤ (y44.Told.length : Int)) = true
       ·
        replace h := iteT hc66 h
        refine NWp.condT (t := decide (i64 ≤ (y44.Told.length : Int))) rfl hc66 ?_
        refine NWp.skip ?_
        refine NWp.seq ?_
        refine NWp.block ?_
        obtain ⟨r67, hr67, h⟩ := bindE h
        obtain ⟨r68, hr68, h⟩ := bindE h
        refine NWp.opsSJ ⟨tab [(7, .ptr 0 0 0), (9, .ptr 1 0 0), (10, .ptr 4 0 0), (23, vi i64), (49, vl5 a2), (50, vi (a2.length : Int)), (51, vi i16), (173, vb (!(r67 == r68)))], stab [(0, .var [vl1 r6.1.Events, vl0 r6.1.Sets, .d (eL none (eL none (D.int .u16)) r6.1.States)]), (1, .var [vl1 r46.2.n_.Events, vl0 r46.2.n_.Sets, .d (eL none (eL none (D.int .u16)) r46.2.n_.States), .d (.int .u64 r46.2.known), .loc 2 0 r46.2.peers.length, .loc 3 0 r46.2.order.length]), (2, .lst true (some 2) (List.map ectrl_peer r46.2.peers)), (3, .lst false none (List.map (D.int .i64) r46.2.order)), (4, .var [vl1 y44.N.Events, vl0 y44.N.Sets, .d (eL none (eL none (D.int .u16)) y44.N.States), .d (.int .u64 y44.Known), vl0 y44.Heard, vl0 y44.Told, vl2 y44.Order])], 5⟩ ?_ ?_
        ·
         refine stepL [] [] (v := .ptr 1 0 0) rfl rfl rfl ?_
         refine stepL [] [] (v := vi i64) rfl rfl rfl ?_
         refine stepLW (σ' := (stab [(0, .var [vl1 r6.1.Events, vl0 r6.1.Sets, .d (eL none (eL none (D.int .u16)) r6.1.States)]), (1, .var [vl1 r46.2.n_.Events, vl0 r46.2.n_.Sets, .d (eL none (eL none (D.int .u16)) r46.2.n_.States), .d (.int .u64 r46.2.known), .loc 2 0 r46.2.peers.length, .loc 3 0 r46.2.order.length]), (2, .lst true (some 2) (List.map ectrl_peer r46.2.peers)), (3, .lst false none (List.map (D.int .i64) r46.2.order)), (4, .var [vl1 y44.N.Events, vl0 y44.N.Sets, .d (eL none (eL none (D.int .u16)) y44.N.States), .d (.int .u64 y44.Known), vl0 y44.Heard, vl0 y44.Told, vl2 y44.Order])])) (R := [1, 2, 3]) (W := []) (PCall.fborrow (c_ctrl_Ctrl_Owes hr67) rfl [(1, .var [vl1 r46.2.n_.Events, vl0 r46.2.n_.Sets, .d (eL none (eL none (D.int .u16)) r46.2.n_.States), .d (.int .u64 r46.2.known), .loc 2 0 r46.2.peers.length, .loc 3 0 r46.2.order.length]), (2, .lst true (some 2) (List.map ectrl_peer r46.2.peers)), (3, .lst false none (List.map (D.int .i64) r46.2.order))] (ViewsB.c (viewB_var rfl (ViewsB.c (.d _) (ViewsB.c (.d _) (ViewsB.c (.d _) (ViewsB.c (.d _) (ViewsB.c (viewB_all (xs := r46.2.peers) (e := ectrl_peer) rfl rfl) (ViewsB.c (viewB_all (xs := r46.2.order) (e := (D.int .i64)) rfl rfl) ViewsB.nil0))))))) (ViewsB.c (.d _) ViewsB.nil0))) ⟨rfl, rfl, rfl, trivial⟩ rfl rfl rfl ?_
         refine stepL [4] [] (v := vs3 y44) (st_ldV (ds := [eL (some 2) eapi_Event y44.N.Events, eL none (D.int .u64) y44.N.Sets, eL none (eL none (D.int .u16)) y44.N.States, .int .u64 y44.Known, eL none (D.int .u64) y44.Heard, eL none (D.int .u64) y44.Told, eL none (D.int .i64) y44.Order]) rfl rfl (show 7 ≤ 7 by decide) rfl) rfl rfl ?_
         refine stepL [] [] (v := vi i64) rfl rfl rfl ?_
         refine stepLC (r := .bool r68) [] (ArgsOk.dt (ArgsOk.dt ArgsOk.nil')) (c_ref18_Ctrl_Owes hr68) rfl ?_
         refine stepL [] [] (v := vb (!(r67 == r68))) rfl rfl rfl ?_
         exact RunOpsL.nil' ⟨by decide, nr [0, 1, 2, 3, 4]⟩
        by_cases hc69 : (!(r67 == r68)) = true
        ·
         replace h := iteT hc69 h
         refine NWp.condT (t := (!(r67 == r68))) rfl hc69 ?_
         refine NWp.opsJ ⟨tab [(6, vb false)], stab [], 0⟩ ?_ ?_
         ·
          refine q1 _ ?_
          exact nR []
         obtain ⟨r70, kr70, hr⟩ := mapE (o := some (Br.ret false)) (g := Br.ret) h
         subst hr
         have h := kr70
         obtain ⟨r71, kr71, hr⟩ := mapE (o := some false) (g := Br.ret) h
         subst hr
         have h := kr71
         have hh := Option.some.inj h
         subst hh
         refine NWp.ret ?_
         refine And.intro (fun hn => nomatch hn) ?_
         intro hq
         have hq := hq.symm
         subst hq
         refine And.intro (fun hn => nomatch hn) ?_
         intro hq
         have hq := hq.symm
         subst hq
         show FQ _ _ _ _
         exact FQ.mk1 (.inr rfl) (res_t (v := vb false) rfl rfl) (RV.d trivial)
        ·
         replace h := iteF hc69 h
         refine NWp.condF (t := (!(r67 == r68))) rfl hc69 ?_
         refine NWp.skip ?_
         have hh := Option.some.inj h
         subst hh
         refine NWp.opsE ⟨tab [(7, .ptr 0 0 0), (9, .ptr 1 0 0), (10, .ptr 4 0 0), (23, vi (IntKind.i64.wrap (i64 + 1))), (49, vl5 a2), (50, vi (a2.length : Int)), (51, vi i16)], stab [(0, .var [vl1 r6.1.Events, vl0 r6.1.Sets, .d (eL none (eL none (D.int .u16)) r6.1.States)]), (1, .var [vl1 r46.2.n_.Events, vl0 r46.2.n_.Sets, .d (eL none (eL none (D.int .u16)) r46.2.n_.States), .d (.int .u64 r46.2.known), .loc 2 0 r46.2.peers.length, .loc 3 0 r46.2.order.length]), (2, .lst true (some 2) (List.map ectrl_peer r46.2.peers)), (3, .lst false none (List.map (D.int .i64) r46.2.order)), (4, .var [vl1 y44.N.Events, vl0 y44.N.Sets, .d (eL none (eL none (D.int .u16)) y44.N.States), .d (.int .u64 y44.Known), vl0 y44.Heard, vl0 y44.Told, vl2 y44.Order])], 5⟩ ?_ ?_
         ·
          iterate 3 refine q1 _ ?_
          exact nR [0, 1, 2, 3, 4]
         exact And.intro rfl rfl
       ·
        replace h := iteF hc66 h
        refine NWp.condF (t := decide (i64 ≤ (y44.Told.length : Int))) rfl hc66 ?_
        have hh := Option.some.inj h
        subst hh
        refine NWp.norm (s0 := ⟨tab [(7, .ptr 0 0 0), (9, .ptr 1 0 0), (10, .ptr 4 0 0), (49, vl5 a2), (50, vi (a2.length : Int)), (51, vi i16)], stab [(0, .var [vl1 r6.1.Events, vl0 r6.1.Sets, .d (eL none (eL none (D.int .u16)) r6.1.States)]), (1, .var [vl1 r46.2.n_.Events, vl0 r46.2.n_.Sets, .d (eL none (eL none (D.int .u16)) r46.2.n_.States), .d (.int .u64 r46.2.known), .loc 2 0 r46.2.peers.length, .loc 3 0 r46.2.order.length]), (2, .lst true (some 2) (List.map ectrl_peer r46.2.peers)), (3, .lst false none (List.map (D.int .i64) r46.2.order)), (4, .var [vl1 y44.N.Events, vl0 y44.N.Sets, .d (eL none (eL none (D.int .u16)) y44.N.States), .d (.int .u64 y44.Known), vl0 y44.Heard, vl0 y44.Told, vl2 y44.Order])], 5⟩) (nr [0, 1, 2, 3, 4]) ?_
        refine NWp.exit ?_
        exact And.intro rfl rfl
      ·
       intro r' hq
       subst hq
       exact Option.some.inj h
      rintro z70 rfl
      have hh := Option.some.inj h
      subst hh
      refine NWp.opsE ⟨tab [(7, .ptr 0 0 0), (9, .ptr 1 0 0), (10, .ptr 4 0 0), (49, vl5 a2), (50, vi (a2.length : Int)), (51, vi (i16 + 1))], stab [(0, .var [vl1 r6.1.Events, vl0 r6.1.Sets, .d (eL none (eL none (D.int .u16)) r6.1.States)]), (1, .var [vl1 r46.2.n_.Events, vl0 r46.2.n_.Sets, .d (eL none (eL none (D.int .u16)) r46.2.n_.States), .d (.int .u64 r46.2.known), .loc 2 0 r46.2.peers.length, .loc 3 0 r46.2.order.length]), (2, .lst true (some 2) (List.map ectrl_peer r46.2.peers)), (3, .lst false none (List.map (D.int .i64) r46.2.order)), (4, .var [vl1 y44.N.Events, vl0 y44.N.Sets, .d (eL none (eL none (D.int .u16)) y44.N.States), .d (.int .u64 y44.Known), vl0 y44.Heard, vl0 y44.Told, vl2 y44.Order])], 5⟩ ?_ ?_
      ·
       refine step (v := vi (i16 + 1)) (st_inc (inc_ok hinv20 hgo19 hB18) rfl rfl) ?_
       refine q1 _ ?_
       exact nR [0, 1, 2, 3, 4]
      exact And.intro rfl rfl
    ·
     rintro i16 ⟨y10, y11, y12, i13, l14, l15, y17⟩ hinv20 hgo19
     show NWp _ _ _ _ _ ⟨tab [(7, .ptr 0 0 0), (9, .ptr 1 0 0), (10, .ptr 4 0 0), (49, vl5 a2), (50, vi (a2.length : Int)), (51, vi i16)], stab [(0, .var [vl1 r6.1.Events, vl0 r6.1.Sets, .d (eL none (eL none (D.int .u16)) r6.1.States)]), (1, .var [vl1 y10, vl0 y11, .d (eL none (eL none (D.int .u16)) y12), .d (.int .u64 i13), .loc 2 0 l14.length, .loc 3 0 l15.length]), (2, .lst true (some 2) (List.map ectrl_peer l14)), (3, .lst false none (List.map (D.int .i64) l15)), (4, .var [vl1 y17.N.Events, vl0 y17.N.Sets, .d (eL none (eL none (D.int .u16)) y17.N.States), .d (.int .u64 y17.Known), vl0 y17.Heard, vl0 y17.Told, vl2 y17.Order])], 5⟩
     have hc21 : ¬ (decide (i16 < (a2.length : Int)) = true) := fun hq => hgo19 (of_decide_eq_true hq)
     refine NWp.opsJ ⟨tab [(7, .ptr 0 0 0), (9, .ptr 1 0 0), (10, .ptr 4 0 0), (49, vl5 a2), (50, vi (a2.length : Int)), (51, vi i16), (52, vb (decide (i16 < (a2.length : Int))))], stab [(0, .var [vl1 r6.1.Events, vl0 r6.1.Sets, .d (eL none (eL none (D.int .u16)) r6.1.States)]), (1, .var [vl1 y10, vl0 y11, .d (eL none (eL none (D.int .u16)) y12), .d (.int .u64 i13), .loc 2 0 l14.length, .loc 3 0 l15.length]), (2, .lst true (some 2) (List.map ectrl_peer l14)), (3, .lst false none (List.map (D.int .i64) l15)), (4, .var [vl1 y17.N.Events, vl0 y17.N.Sets, .d (eL none (eL none (D.int .u16)) y17.N.States), .d (.int .u64 y17.Known), vl0 y17.Heard, vl0 y17.Told, vl2 y17.Order])], 5⟩ ?_ ?_
     ·
      refine q1 _ ?_
      exact nR [0, 1, 2, 3, 4]
     refine NWp.seq ?_
     refine NWp.condF (t := decide (i16 < (a2.length : Int))) rfl hc21 ?_
     refine NWp.norm (s0 := ⟨tab [], stab [], 0⟩) (nr []) ?_
     refine NWp.exit ?_
     exact And.intro rfl rfl
    ·
     intro r' hq
     subst hq
     exact Option.some.inj h
    rintro ⟨z73, z74, z75, z76, z77, z78, z79⟩ rfl
    refine NWp.opsJ ⟨tab [(6, vb true)], stab [], 0⟩ ?_ ?_
    ·
     refine q1 _ ?_
     exact nR []
    have hh := Option.some.inj h
    subst hh
    refine NWp.ret ?_
    show FQ _ _ _ _
    exact FQ.mk1 (.inr rfl) (res_t (v := vb true) rfl rfl) (RV.d trivial)


end Go.AM
