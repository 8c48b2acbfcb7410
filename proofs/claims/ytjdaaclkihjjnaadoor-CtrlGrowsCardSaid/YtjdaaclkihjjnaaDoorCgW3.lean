import Derived.Test.YtjdaaclkihjjnaaDoorCgW2
/-  What they are in the program: walks. -/
set_option linter.unusedVariables false
set_option linter.unusedSimpArgs false
namespace Go.AM
open Go Go.RowKit Go.Proofs

attribute [local irreducible] RunOps RunOpsL

theorem c_ctrl_Ctrl_Owes {a0 : ctrl_Ctrl} {a1 : Int} {r : Bool} (h : ctrl_Ctrl_Owes a0 a1 = some r) : PCall Tryd.prog 18 [.cptr (some 6) (ectrl_Ctrl a0) 0, .int .i64 a1] (.bool r) := by
 refine PCall.introN ok18 (show 2 ≤ 33 by decide) ?_
 refine NWp.norm (s0 := ⟨tab [(0, vp4 a0), (1, vi a1)], stab [], 0⟩) (nr []) ?_
 refine NWp.opsJ ⟨tab [(0, vp4 a0), (1, vi a1)], stab [], 0⟩ ?_ ?_
 ·
  refine q1 (vb false) ?_
  exact nR []
 obtain ⟨r1, hr1, h⟩ := bindE h
 obtain ⟨y5, hv, h⟩ := bindE h
 refine NWp.opsJ ⟨tab [(4, vb y5)], stab [], 0⟩ ?_ ?_
 ·
  refine q1 (vp4 a0) ?_
  refine q1 (vi a1) ?_
  refine stepC (r := .bool r1) (ArgsOk.dt (ArgsOk.dt ArgsOk.nil')) (c_ctrl_Ctrl_has hr1) ?_
  refine q1 (vb r1) ?_
  by_cases hg2 : r1 = true
  ·
   replace hv := iteT hg2 hv
   obtain ⟨x3, hx3, hv⟩ := bindE hv
   obtain ⟨r4, hr4, hv⟩ := bindE hv
   refine qG r1 hg2 ?_
   refine q1 (vp4 a0) ?_
   refine qG r1 hg2 ?_
   refine q1 (vp4 a0) ?_
   refine qG r1 hg2 ?_
   refine q1 (.d (.cptr (some 6) (ectrl_Ctrl a0) 3)) ?_
   refine qG r1 hg2 ?_
   refine q1 (.d (.int .u64 a0.known)) ?_
   refine qG r1 hg2 ?_
   refine q1 (vp4 a0) ?_
   refine qG r1 hg2 ?_
   refine q1 (vp4 a0) ?_
   refine qG r1 hg2 ?_
   refine q1 (.d (.cptr (some 6) (ectrl_Ctrl a0) 4)) ?_
   refine qG r1 hg2 ?_
   refine q1 (.d (eL (some 2) ectrl_peer a0.peers)) ?_
   refine qG r1 hg2 ?_
   refine q1 (vi a1) ?_
   refine qG r1 hg2 ?_
   refine step (v := .d (.cptr (some 2) (ectrl_peer x3) 0)) (st_iaddr (xs := a0.peers) (e := ectrl_peer) hx3 rfl rfl) ?_
   refine qG r1 hg2 ?_
   refine q1 (.d (.cptr (some 2) (ectrl_peer x3) 1)) ?_
   refine qG r1 hg2 ?_
   refine q1 (.d (.int .u64 x3.told)) ?_
   refine qG r1 hg2 ?_
   refine q1 (vp4 a0) ?_
   refine qG r1 hg2 ?_
   refine q1 (vp4 a0) ?_
   refine qG r1 hg2 ?_
   refine q1 (.d (.cptr (some 6) (ectrl_Ctrl a0) 4)) ?_
   refine qG r1 hg2 ?_
   refine q1 (.d (eL (some 2) ectrl_peer a0.peers)) ?_
   refine qG r1 hg2 ?_
   refine q1 (vi a1) ?_
   refine qG r1 hg2 ?_
   refine step (v := .d (.cptr (some 2) (ectrl_peer x3) 0)) (st_iaddr (xs := a0.peers) (e := ectrl_peer) hx3 rfl rfl) ?_
   refine qG r1 hg2 ?_
   refine q1 (.d (.cptr (some 2) (ectrl_peer x3) 0)) ?_
   refine qG r1 hg2 ?_
   refine q1 (.d (.int .u64 x3.heard)) ?_
   refine qG r1 hg2 ?_
   refine q1 (.d (.int .u64 (orI .u64 x3.told x3.heard))) ?_
   refine qG r1 hg2 ?_
   refine stepC (r := .bool r4) (ArgsOk.dt (ArgsOk.dt ArgsOk.nil')) (c_events_In hr4) ?_
   refine qG r1 hg2 ?_
   refine q1 (vb (!r4)) ?_
   refine step (v := vb (!r4)) (st_pickT (b := r1) rfl hg2 rfl) ?_
   refine q1 (vb (!r4)) ?_
   have hh := Option.some.inj hv
   subst hh
   exact nR []
  ·
   replace hv := iteF hg2 hv
   refine qX r1 hg2 ?_
   refine qX r1 hg2 ?_
   refine qX r1 hg2 ?_
   refine qX r1 hg2 ?_
   refine qX r1 hg2 ?_
   refine qX r1 hg2 ?_
   refine qX r1 hg2 ?_
   refine qX r1 hg2 ?_
   refine qX r1 hg2 ?_
   refine qX r1 hg2 ?_
   refine qX r1 hg2 ?_
   refine qX r1 hg2 ?_
   refine qX r1 hg2 ?_
   refine qX r1 hg2 ?_
   refine qX r1 hg2 ?_
   refine qX r1 hg2 ?_
   refine qX r1 hg2 ?_
   refine qX r1 hg2 ?_
   refine qX r1 hg2 ?_
   refine qX r1 hg2 ?_
   refine qX r1 hg2 ?_
   refine qX r1 hg2 ?_
   refine qX r1 hg2 ?_
   refine step (v := vb false) (st_pickF (b := r1) rfl hg2 rfl) ?_
   refine q1 (vb false) ?_
   have hh := Option.some.inj hv
   subst hh
   exact nR []
 have hh := Option.some.inj h
 subst hh
 refine NWp.ret ?_
 show FQ _ _ _ _
 exact FQ.mk1 (.inr rfl) (res_t (v := vb y5) rfl rfl) (RV.d trivial)

theorem c_ref02_List {a0 : Int} {r : (List Int)} (h : ref02_List a0 = some r) : PCall Tryd.prog 20 [.int .u64 a0] (eL none (D.int .i64) r) := by
 refine PCall.introN ok20 (show 1 ≤ 20 by decide) ?_
 refine NWp.norm (s0 := ⟨tab [(0, .d (.int .u64 a0))], stab [], 0⟩) (nr []) ?_
 refine NWp.opsJ ⟨tab [(0, .d (.int .u64 a0))], stab [], 0⟩ ?_ ?_
 ·
  refine q1 (vl8 ([] : List Int)) ?_
  exact nR []
 refine NWp.opsJ ⟨tab [(0, .d (.int .u64 a0)), (3, .d (.nils))], stab [], 0⟩ ?_ ?_
 ·
  refine q1 (.d (.nils)) ?_
  exact nR []
 refine NWp.seq ?_
 refine NWp.opsJ ⟨tab [(0, .d (.int .u64 a0)), (3, .d (.nils)), (4, vi 0)], stab [], 0⟩ ?_ ?_
 ·
  refine q1 (vi 0) ?_
  exact nR []
 obtain ⟨z14, hl, h⟩ := bindE h
 refine NWp.norm (s0 := ⟨tab [(0, .d (.int .u64 a0)), (3, .loc 0 0 (([] : List Int).length)), (4, vi 0)], stab [(0, .lst false none (List.map (D.int .i64) ([] : List Int)))], 1⟩) (Norm.trans (s2 := ⟨tab [(0, .d (.int .u64 a0)), (3, .loc 0 0 (([] : List Int).length)), (4, vi 0)], stab [(0, .lst false none (List.map (D.int .i64) ([] : List Int)))], 1⟩) (Norm.nil1 3 false none rfl) (nr [0])) ?_
 refine NWp.block ?_
 refine loop_forO (cntU 64) (fun (i2 : Int) (qq : (List Int)) => ⟨tab [(0, .d (.int .u64 a0)), (3, .loc 0 0 qq.length), (4, vi i2)], stab [(0, .lst false none (List.map (D.int .i64) qq))], 1⟩) 0 (fun (qq : (List Int)) => ⟨tab [(3, .loc 0 0 qq.length)], stab [(0, .lst false none (List.map (D.int .i64) qq))], 1⟩) Low low_step hl (by unfold Low; omega) ?_ ?_ ?_
 ·
  rintro i2 l1 xr7 hinv5 hgo4 h
  show NWp _ _ _ _ _ ⟨tab [(0, .d (.int .u64 a0)), (3, .loc 0 0 l1.length), (4, vi i2)], stab [(0, .lst false none (List.map (D.int .i64) l1))], 1⟩
  have hc6 : decide (i2 < 64) = true := decide_eq_true hgo4
  refine NWp.seq ?_
  refine NWp.opsJ ⟨tab [(0, .d (.int .u64 a0)), (3, .loc 0 0 l1.length), (4, vi i2), (6, vb (decide (i2 < 64)))], stab [(0, .lst false none (List.map (D.int .i64) l1))], 1⟩ ?_ ?_
  ·
   refine q1 (vi i2) ?_
   refine q1 (vb (decide (i2 < 64))) ?_
   exact nR [0]
  refine NWp.condT (t := decide (i2 < 64)) rfl hc6 ?_
  refine NWp.skip ?_
  obtain ⟨l12, hv, h⟩ := bindE h
  refine NWp.seqN ⟨tab [(0, .d (.int .u64 a0)), (3, .loc 0 0 l12.length), (4, vi i2)], stab [(0, .lst false none (List.map (D.int .i64) l12))], 1⟩ ?_ ?_
  ·
   replace h := hv
   refine NWp.block ?_
   obtain ⟨r8, hr8, h⟩ := bindE h
   obtain ⟨q9, hq9, h⟩ := bindE h
   refine NWp.opsJ ⟨tab [(0, .d (.int .u64 a0)), (3, .loc 0 0 l1.length), (4, vi i2), (14, vb ((q9.tmod 2) == 1))], stab [(0, .lst false none (List.map (D.int .i64) l1))], 1⟩ ?_ ?_
   ·
    refine q1 (.d (.int .u64 a0)) ?_
    refine q1 (vi i2) ?_
    refine stepC (r := .int .u64 r8) (ArgsOk.dt ArgsOk.nil') (c_ref02_pow hr8) ?_
    refine step (v := .d (.int .u64 q9)) (st_quo hq9 rfl rfl) ?_
    refine q1 (.d (.int .u64 (q9.tmod 2))) ?_
    refine q1 (vb ((q9.tmod 2) == 1)) ?_
    exact nR [0]
   by_cases hc10 : ((q9.tmod 2) == 1) = true
   ·
    replace h := iteT hc10 h
    refine NWp.condT (t := ((q9.tmod 2) == 1)) rfl hc10 ?_
    obtain ⟨l11, hl11, h⟩ := bindE h
    have hh := Option.some.inj h
    subst hh
    refine NWp.opsE ⟨tab [(0, .d (.int .u64 a0)), (3, .loc 0 0 l11.length), (4, vi i2)], stab [(0, .lst false none (List.map (D.int .i64) l11))], 1⟩ ?_ ?_
    ·
     refine q1 (.loc 0 0 l1.length) ?_
     refine q1 (vi i2) ?_
     refine q1 (vl8 ([i2] : List Int)) ?_
     refine step (v := .loc 1 0 l11.length) (σ' := (upd (upd (stab [(0, .lst false none (List.map (D.int .i64) l1))]) 0 none) 1 (some (.lst false none (List.map (D.int .i64) l11))))) (n' := 2) (st_app (xs := l1) (ys := ([i2] : List Int)) (e := (D.int .i64)) hl11 rfl rfl rfl (src_v (xs := ([i2] : List Int)) (e := (D.int .i64)) rfl)) ?_
     refine q1 (.loc 1 0 l11.length) ?_
     exact nR [1]
    exact And.intro rfl rfl
   ·
    replace h := iteF hc10 h
    refine NWp.condF (t := ((q9.tmod 2) == 1)) rfl hc10 ?_
    have hh := Option.some.inj h
    subst hh
    refine NWp.norm (s0 := ⟨tab [(0, .d (.int .u64 a0)), (3, .loc 0 0 l1.length), (4, vi i2)], stab [(0, .lst false none (List.map (D.int .i64) l1))], 1⟩) (nr [0]) ?_
    refine NWp.skip ?_
    exact And.intro rfl rfl
  have hh := Option.some.inj h
  subst hh
  refine NWp.opsE ⟨tab [(0, .d (.int .u64 a0)), (3, .loc 0 0 l12.length), (4, vi (i2 + 1))], stab [(0, .lst false none (List.map (D.int .i64) l12))], 1⟩ ?_ ?_
  ·
   refine q1 (vi i2) ?_
   refine step (v := vi (i2 + 1)) (st_inc (inc_ok hinv5 hgo4 (by decide)) rfl rfl) ?_
   refine q1 (vi (i2 + 1)) ?_
   exact nR [0]
  exact And.intro rfl rfl
 ·
  rintro i2 l1 hinv5 hgo4
  show NWp _ _ _ _ _ ⟨tab [(0, .d (.int .u64 a0)), (3, .loc 0 0 l1.length), (4, vi i2)], stab [(0, .lst false none (List.map (D.int .i64) l1))], 1⟩
  have hc6 : ¬ (decide (i2 < 64) = true) := fun hq => hgo4 (of_decide_eq_true hq)
  refine NWp.seq ?_
  refine NWp.opsJ ⟨tab [(0, .d (.int .u64 a0)), (3, .loc 0 0 l1.length), (4, vi i2), (6, vb (decide (i2 < 64)))], stab [(0, .lst false none (List.map (D.int .i64) l1))], 1⟩ ?_ ?_
  ·
   refine q1 (vi i2) ?_
   refine q1 (vb (decide (i2 < 64))) ?_
   exact nR [0]
  refine NWp.condF (t := decide (i2 < 64)) rfl hc6 ?_
  refine NWp.norm (s0 := ⟨tab [(3, .loc 0 0 l1.length)], stab [(0, .lst false none (List.map (D.int .i64) l1))], 1⟩) (nr [0]) ?_
  refine NWp.exit ?_
  exact And.intro rfl rfl
 refine NWp.opsJ ⟨tab [(2, .loc 0 0 z14.length)], stab [(0, .lst false none (List.map (D.int .i64) z14))], 1⟩ ?_ ?_
 ·
  refine q1 (.loc 0 0 z14.length) ?_
  refine q1 (.loc 0 0 z14.length) ?_
  exact nR [0]
 have hh := Option.some.inj h
 subst hh
 refine NWp.ret ?_
 show FQ _ _ _ _
 exact FQ.mk1 (.inr rfl) (res_t (v := .loc 0 0 z14.length) rfl rfl) (RV.loc (xs := z14) (e := (D.int .i64)) rfl rfl trivial)

theorem c_law18_CtrlGrows {a0 : api_Program} {a1 : (List law18_Act)} {r : Bool} (h : law18_CtrlGrows a0 a1 = some r) : PCall Tryd.prog 4 [eapi_Program a0, eL (some 4) elaw18_Act a1] (.bool r) := by
 refine PCall.introN ok4 (show 2 ≤ 145 by decide) ?_
 refine NWp.norm (s0 := ⟨tab [(0, vs2 a0), (1, vl5 a1)], stab [], 0⟩) (nr []) ?_
 refine NWp.opsJ ⟨tab [(1, vl5 a1), (2, .ptr 0 0 0)], stab [(0, .var [vl3 a0.Init, vi a0.Pol.Op, vi a0.Pol.F, vh a0.Pol.N, vl7 a0.Pol.Kids, vl6 a0.Rules])], 1⟩ ?_ ?_
 ·
  refine step (v := .ptr 0 0 0) (σ' := (upd (stab []) 0 (some (.var [vl3 a0.Init, vi a0.Pol.Op, vi a0.Pol.F, vh a0.Pol.N, vl7 a0.Pol.Kids, vl6 a0.Rules])))) (n' := 1) rfl ?_
  refine q1 (vb false) ?_
  exact nR [0]
 refine NWp.seq ?_
 obtain ⟨r1, hr1, h⟩ := bindE h
 refine NWp.opsJ ⟨tab [(1, vl5 a1), (2, .ptr 0 0 0), (21, vb (!r1))], stab [(0, .var [vl3 a0.Init, vi a0.Pol.Op, vi a0.Pol.F, vh a0.Pol.N, vl7 a0.Pol.Kids, vl6 a0.Rules])], 1⟩ ?_ ?_
 ·
  refine stepC (r := .bool r1) ArgsOk.nil' (c_law18_awake hr1) ?_
  refine q1 (vb (!r1)) ?_
  exact nR [0]
 by_cases hc2 : (!r1) = true
 ·
  replace h := iteT hc2 h
  refine NWp.condT (t := (!r1)) rfl hc2 ?_
  refine NWp.opsJ ⟨tab [(4, vb false)], stab [], 0⟩ ?_ ?_
  ·
   refine q1 (vb false) ?_
   exact nR []
  have hh := Option.some.inj h
  subst hh
  refine NWp.ret ?_
  show FQ _ _ _ _
  exact FQ.mk1 (.inr rfl) (res_t (v := vb false) rfl rfl) (RV.d trivial)
 ·
  replace h := iteF hc2 h
  refine NWp.condF (t := (!r1)) rfl hc2 ?_
  refine NWp.skip ?_
  refine NWp.opsJ ⟨tab [(1, vl5 a1), (2, .ptr 0 0 0)], stab [(0, .var [vl3 a0.Init, vi 0, vi 0, vh 0, vl7 [], vl6 a0.Rules])], 1⟩ ?_ ?_
  ·
   refine step (v := vs3 (api_Pol.mk 0 0 0 [])) (st_build (ds := [.int .i64 0, .int .i64 0, .int .u16 0, eL (some 4) eapi_Pol []]) rfl) ?_
   refine q1 (.ptr 0 0 1) ?_
   refine step (v := V.undef) (σ' := (upd (stab [(0, .var [vl3 a0.Init, vi a0.Pol.Op, vi a0.Pol.F, vh a0.Pol.N, vl7 a0.Pol.Kids, vl6 a0.Rules])]) 0 (some (.var [vl3 a0.Init, vi 0, vi 0, vh 0, vl7 [], vl6 a0.Rules])))) (n' := 1) rfl ?_
   exact nR [0]
  refine NWp.seq ?_
  obtain ⟨r3, hr3, h⟩ := bindE h
  refine NWp.opsJ ⟨tab [(1, vl5 a1), (2, .ptr 0 0 0), (31, vb ((!r3) || (decide ((a1.length : Int) > 60))))], stab [(0, .var [vl3 a0.Init, vi 0, vi 0, vh 0, vl7 [], vl6 a0.Rules])], 1⟩ ?_ ?_
  ·
   refine step (v := vs2 (api_Program.mk a0.Init (api_Pol.mk 0 0 0 []) a0.Rules)) (st_ldV (ds := [eL none (D.int .u16) a0.Init, .int .i64 0, .int .i64 0, .int .u16 0, eL (some 4) eapi_Pol [], eL (some 3) eapi_Rule a0.Rules]) rfl rfl (show 6 ≤ 6 by decide) rfl) ?_
   refine stepC (r := .bool r3) (ArgsOk.dt ArgsOk.nil') (c_law11_Small hr3) ?_
   refine q1 (vb (!r3)) ?_
   refine q1 (vb (!r3)) ?_
   by_cases hg4 : (!r3) = true
   ·
    refine qX (!r3) (by rw [hg4]; decide) ?_
    refine qX (!r3) (by rw [hg4]; decide) ?_
    refine qX (!r3) (by rw [hg4]; decide) ?_
    refine step (v := vb true) (st_pickT (b := (!r3)) rfl hg4 rfl) ?_
    exact RunOps.nil' (nm [0] ⟨.d _, .pt 0, .eq (by first | (simp [hg4]; done) | (simp_all; done) | grind), trivial⟩ ⟨⟨show 0 < 1 by decide, _, rfl, .vars ⟨.d _, .d _, .d _, .d _, .d _, .d _, trivial⟩⟩, trivial⟩)
   ·
    refine qG (!r3) (Bool.eq_false_iff.2 hg4) ?_
    refine q1 (vl5 a1) ?_
    refine qG (!r3) (Bool.eq_false_iff.2 hg4) ?_
    refine step (v := vi (a1.length : Int)) (st_len (xs := a1) (e := elaw18_Act) rfl) ?_
    refine qG (!r3) (Bool.eq_false_iff.2 hg4) ?_
    refine q1 (vb (decide ((a1.length : Int) > 60))) ?_
    refine step (v := vb (decide ((a1.length : Int) > 60))) (st_pickF (b := (!r3)) rfl hg4 rfl) ?_
    exact RunOps.nil' (nm [0] ⟨.d _, .pt 0, .eq (by first | (simp [hg4]; done) | (simp_all; done) | grind), trivial⟩ ⟨⟨show 0 < 1 by decide, _, rfl, .vars ⟨.d _, .d _, .d _, .d _, .d _, .d _, trivial⟩⟩, trivial⟩)
  by_cases hc5 : ((!r3) || (decide ((a1.length : Int) > 60))) = true
  ·
   replace h := iteT hc5 h
   refine NWp.condT (t := ((!r3) || (decide ((a1.length : Int) > 60)))) rfl hc5 ?_
   refine NWp.opsJ ⟨tab [(4, vb true)], stab [], 0⟩ ?_ ?_
   ·
    refine q1 (vb true) ?_
    exact nR []
   have hh := Option.some.inj h
   subst hh
   refine NWp.ret ?_
   show FQ _ _ _ _
   exact FQ.mk1 (.inr rfl) (res_t (v := vb true) rfl rfl) (RV.d trivial)
  ·
   replace h := iteF hc5 h
   refine NWp.condF (t := ((!r3) || (decide ((a1.length : Int) > 60)))) rfl hc5 ?_
   refine NWp.skip ?_
   obtain ⟨r6, hr6, h⟩ := bindE h
   refine NWp.opsJ ⟨tab [(1, vl5 a1), (5, .ptr 0 0 0), (6, vi r6.2)], stab [(0, .var [vl1 r6.1.Events, vl0 r6.1.Sets, .d (eL none (eL none (D.int .u16)) r6.1.States)])], 1⟩ ?_ ?_
   ·
    refine step (v := vs2 (api_Program.mk a0.Init (api_Pol.mk 0 0 0 []) a0.Rules)) (st_ldV (ds := [eL none (D.int .u16) a0.Init, .int .i64 0, .int .i64 0, .int .u16 0, eL (some 4) eapi_Pol [], eL (some 3) eapi_Rule a0.Rules]) rfl rfl (show 6 ≤ 6 by decide) rfl) ?_
    refine stepC (r := .tup [eapi_Nes r6.1, .int .i64 r6.2]) (ArgsOk.dt ArgsOk.nil') (c_ref12_Of hr6) ?_
    refine q1 (.d (.tup [eapi_Nes r6.1, .int .i64 r6.2])) ?_
    refine q1 (vs1 r6.1) ?_
    refine q1 (vi r6.2) ?_
    refine step (v := .ptr 1 0 0) (σ' := (upd (stab [(0, .var [vl3 a0.Init, vi 0, vi 0, vh 0, vl7 [], vl6 a0.Rules])]) 1 (some (.var [vl1 [], vl0 [], .d (eL none (eL none (D.int .u16)) [])])))) (n' := 2) rfl ?_
    refine step (v := V.undef) (σ' := (upd (upd (stab [(0, .var [vl3 a0.Init, vi 0, vi 0, vh 0, vl7 [], vl6 a0.Rules])]) 1 (some (.var [vl1 [], vl0 [], .d (eL none (eL none (D.int .u16)) [])]))) 1 (some (.var [vl1 r6.1.Events, vl0 r6.1.Sets, .d (eL none (eL none (D.int .u16)) r6.1.States)])))) (n' := 2) rfl ?_
    refine q1 (vi r6.2) ?_
    exact nR [1]
   refine NWp.seq ?_
   refine NWp.opsJ ⟨tab [(1, vl5 a1), (5, .ptr 0 0 0), (38, vb (r6.2 != 0))], stab [(0, .var [vl1 r6.1.Events, vl0 r6.1.Sets, .d (eL none (eL none (D.int .u16)) r6.1.States)])], 1⟩ ?_ ?_
   ·
    refine q1 (vi r6.2) ?_
    refine q1 (vb (r6.2 != 0)) ?_
    exact nR [0]
   by_cases hc7 : (r6.2 != 0) = true
   ·
    replace h := iteT hc7 h
    refine NWp.condT (t := (r6.2 != 0)) rfl hc7 ?_
    refine NWp.opsJ ⟨tab [(4, vb true)], stab [], 0⟩ ?_ ?_
    ·
     refine q1 (vb true) ?_
     exact nR []
    have hh := Option.some.inj h
    subst hh
    refine NWp.ret ?_
    show FQ _ _ _ _
    exact FQ.mk1 (.inr rfl) (res_t (v := vb true) rfl rfl) (RV.d trivial)
   ·
    replace h := iteF hc7 h
    refine NWp.condF (t := (r6.2 != 0)) rfl hc7 ?_
    refine NWp.skip ?_
    obtain ⟨r8, hr8, h⟩ := bindE h
    refine NWp.opsJ ⟨tab [(1, vl5 a1), (5, .ptr 0 0 0), (7, .ptr 1 0 0)], stab [(0, .var [vl1 r6.1.Events, vl0 r6.1.Sets, .d (eL none (eL none (D.int .u16)) r6.1.States)]), (1, .var [vl1 r8.n_.Events, vl0 r8.n_.Sets, .d (eL none (eL none (D.int .u16)) r8.n_.States), .d (.int .u64 r8.known), .loc 2 0 r8.peers.length, .loc 3 0 r8.order.length]), (2, .lst true (some 2) (List.map ectrl_peer r8.peers)), (3, .lst false none (List.map (D.int .i64) r8.order))], 4⟩ ?_ ?_
    ·
     refine step (v := vs1 r6.1) (st_ldV (ds := [eL (some 2) eapi_Event r6.1.Events, eL none (D.int .u64) r6.1.Sets, eL none (eL none (D.int .u16)) r6.1.States]) rfl rfl (show 3 ≤ 3 by decide) rfl) ?_
     refine stepW (v := .ptr 1 0 0) (σ' := (upd (upd (upd (stab [(0, .var [vl1 r6.1.Events, vl0 r6.1.Sets, .d (eL none (eL none (D.int .u16)) r6.1.States)])]) 3 (some (.lst false none (List.map (D.int .i64) r8.order)))) 2 (some (.lst true (some 2) (List.map ectrl_peer r8.peers)))) 1 (some (.var [vl1 r8.n_.Events, vl0 r8.n_.Sets, .d (eL none (eL none (D.int .u16)) r8.n_.States), .d (.int .u64 r8.known), .loc 2 0 r8.peers.length, .loc 3 0 r8.order.length])))) (n' := 4) (SCall.lift [] (c_ctrl_New hr8) (show 0 ≤ 3 by decide) (by decide) (show ∀ i ∈ [], i < 1 by decide) (dom_c (show 0 < 3 by decide) (dom_c (show 1 < 3 by decide) (dom_c (show 2 < 3 by decide) dom_n))) (VNs.c (.d _) (VNs.c (.d _) VNs.nil0)) SN.nil0) (show 1 ≤ 4 by decide) ?_
     refine q1 (.ptr 1 0 0) ?_
     exact nR [0, 1, 2, 3]
    refine NWp.opsJ ⟨tab [(1, vl5 a1), (5, .ptr 0 0 0), (7, .ptr 1 0 0), (8, .d (.int .u64 0))], stab [(0, .var [vl1 r6.1.Events, vl0 r6.1.Sets, .d (eL none (eL none (D.int .u16)) r6.1.States)]), (1, .var [vl1 r8.n_.Events, vl0 r8.n_.Sets, .d (eL none (eL none (D.int .u16)) r8.n_.States), .d (.int .u64 r8.known), .loc 2 0 r8.peers.length, .loc 3 0 r8.order.length]), (2, .lst true (some 2) (List.map ectrl_peer r8.peers)), (3, .lst false none (List.map (D.int .i64) r8.order))], 4⟩ ?_ ?_
    ·
     refine q1 (.d (.int .u64 0)) ?_
     exact nR [0, 1, 2, 3]
    refine NWp.seq ?_
    refine NWp.opsJ ⟨tab [(5, .ptr 0 0 0), (7, .ptr 1 0 0), (8, .d (.int .u64 0)), (41, vl5 a1), (42, vi (a1.length : Int)), (43, vi 0)], stab [(0, .var [vl1 r6.1.Events, vl0 r6.1.Sets, .d (eL none (eL none (D.int .u16)) r6.1.States)]), (1, .var [vl1 r8.n_.Events, vl0 r8.n_.Sets, .d (eL none (eL none (D.int .u16)) r8.n_.States), .d (.int .u64 r8.known), .loc 2 0 r8.peers.length, .loc 3 0 r8.order.length]), (2, .lst true (some 2) (List.map ectrl_peer r8.peers)), (3, .lst false none (List.map (D.int .i64) r8.order))], 4⟩ ?_ ?_
    ·
     refine q1 (vl5 a1) ?_
     refine step (v := vi (a1.length : Int)) (st_len (xs := a1) (e := elaw18_Act) rfl) ?_
     refine q1 (vi 0) ?_
     exact nR [0, 1, 2, 3]
    obtain ⟨q89, hl, h⟩ := bindE h
    refine NWp.block ?_
    refine loop_forR (cntU (a1.length : Int)) (fun (i16 : Int) (qq : ((List api_Event) × (List Int) × (List (List Int)) × Int × (List ctrl_peer) × (List Int) × Int)) => ⟨tab [(5, .ptr 0 0 0), (7, .ptr 1 0 0), (8, .d (.int .u64 qq.2.2.2.2.2.2)), (41, vl5 a1), (42, vi (a1.length : Int)), (43, vi i16)], stab [(0, .var [vl1 r6.1.Events, vl0 r6.1.Sets, .d (eL none (eL none (D.int .u16)) r6.1.States)]), (1, .var [vl1 qq.1, vl0 qq.2.1, .d (eL none (eL none (D.int .u16)) qq.2.2.1), .d (.int .u64 qq.2.2.2.1), .loc 2 0 qq.2.2.2.2.1.length, .loc 3 0 qq.2.2.2.2.2.1.length]), (2, .lst true (some 2) (List.map ectrl_peer qq.2.2.2.2.1)), (3, .lst false none (List.map (D.int .i64) qq.2.2.2.2.2.1))], 4⟩) 0 (fun (qq : ((List api_Event) × (List Int) × (List (List Int)) × Int × (List ctrl_peer) × (List Int) × Int)) => ⟨tab [], stab [], 0⟩) Low low_step (r := r) hl (by unfold Low; omega) ?_ ?_ ?_ ?_
    ·
     rintro i16 ⟨y9, y10, y11, i12, l13, l14, i15⟩ xr21 hinv19 hgo18 h
     show NWp _ _ _ _ _ ⟨tab [(5, .ptr 0 0 0), (7, .ptr 1 0 0), (8, .d (.int .u64 i15)), (41, vl5 a1), (42, vi (a1.length : Int)), (43, vi i16)], stab [(0, .var [vl1 r6.1.Events, vl0 r6.1.Sets, .d (eL none (eL none (D.int .u16)) r6.1.States)]), (1, .var [vl1 y9, vl0 y10, .d (eL none (eL none (D.int .u16)) y11), .d (.int .u64 i12), .loc 2 0 l13.length, .loc 3 0 l14.length]), (2, .lst true (some 2) (List.map ectrl_peer l13)), (3, .lst false none (List.map (D.int .i64) l14))], 4⟩
     have hc20 : decide (i16 < (a1.length : Int)) = true := decide_eq_true hgo18
     refine NWp.opsJ ⟨tab [(5, .ptr 0 0 0), (7, .ptr 1 0 0), (8, .d (.int .u64 i15)), (41, vl5 a1), (42, vi (a1.length : Int)), (43, vi i16), (44, vb (decide (i16 < (a1.length : Int))))], stab [(0, .var [vl1 r6.1.Events, vl0 r6.1.Sets, .d (eL none (eL none (D.int .u16)) r6.1.States)]), (1, .var [vl1 y9, vl0 y10, .d (eL none (eL none (D.int .u16)) y11), .d (.int .u64 i12), .loc 2 0 l13.length, .loc 3 0 l14.length]), (2, .lst true (some 2) (List.map ectrl_peer l13)), (3, .lst false none (List.map (D.int .i64) l14))], 4⟩ ?_ ?_
     ·
      refine q1 (vb (decide (i16 < (a1.length : Int)))) ?_
      exact nR [0, 1, 2, 3]
     refine NWp.rng 42 rfl fun hB17 => ?_
     refine NWp.seq ?_
     refine NWp.condT (t := decide (i16 < (a1.length : Int))) rfl hc20 ?_
     refine NWp.skip ?_
     obtain ⟨q81, hv, h⟩ := bindE h
     refine NWp.seqS (fun (qq : ((List api_Event) × (List Int) × (List (List Int)) × Int × (List ctrl_peer) × (List Int) × Int)) => ⟨tab [(5, .ptr 0 0 0), (7, .ptr 1 0 0), (8, .d (.int .u64 qq.2.2.2.2.2.2)), (41, vl5 a1), (42, vi (a1.length : Int)), (43, vi i16)], stab [(0, .var [vl1 r6.1.Events, vl0 r6.1.Sets, .d (eL none (eL none (D.int .u16)) r6.1.States)]), (1, .var [vl1 qq.1, vl0 qq.2.1, .d (eL none (eL none (D.int .u16)) qq.2.2.1), .d (.int .u64 qq.2.2.2.1), .loc 2 0 qq.2.2.2.2.1.length, .loc 3 0 qq.2.2.2.2.2.1.length]), (2, .lst true (some 2) (List.map ectrl_peer qq.2.2.2.2.1)), (3, .lst false none (List.map (D.int .i64) qq.2.2.2.2.2.1))], 4⟩) (xv := q81) (r := xr21) ?_ ?_ ?_
     ·
      replace h := hv
      refine NWp.block ?_
      obtain ⟨x22, hx22, h⟩ := bindE h
      refine NWp.opsJ ⟨tab [(5, .ptr 0 0 0), (7, .ptr 1 0 0), (8, .d (.int .u64 i15)), (10, .ptr 4 0 0), (41, vl5 a1), (42, vi (a1.length : Int)), (43, vi i16)], stab [(0, .var [vl1 r6.1.Events, vl0 r6.1.Sets, .d (eL none (eL none (D.int .u16)) r6.1.States)]), (1, .var [vl1 y9, vl0 y10, .d (eL none (eL none (D.int .u16)) y11), .d (.int .u64 i12), .loc 2 0 l13.length, .loc 3 0 l14.length]), (2, .lst true (some 2) (List.map ectrl_peer l13)), (3, .lst false none (List.map (D.int .i64) l14)), (4, .var [vi x22.What, vi x22.I, vi x22.N, .d (.int .u64 x22.S)])], 5⟩ ?_ ?_
      ·
       refine step (v := .d (.cptr (some 4) (elaw18_Act x22) 0)) (st_iaddr (xs := a1) (e := elaw18_Act) hx22 rfl rfl) ?_
       refine q1 (.d (elaw18_Act x22)) ?_
       refine step (v := .ptr 4 0 0) (σ' := (upd (stab [(0, .var [vl1 r6.1.Events, vl0 r6.1.Sets, .d (eL none (eL none (D.int .u16)) r6.1.States)]), (1, .var [vl1 y9, vl0 y10, .d (eL none (eL none (D.int .u16)) y11), .d (.int .u64 i12), .loc 2 0 l13.length, .loc 3 0 l14.length]), (2, .lst true (some 2) (List.map ectrl_peer l13)), (3, .lst false none (List.map (D.int .i64) l14))]) 4 (some (.var [vi 0, vi 0, vi 0, .d (.int .u64 0)])))) (n' := 5) rfl ?_
       refine step (v := V.undef) (σ' := (upd (upd (stab [(0, .var [vl1 r6.1.Events, vl0 r6.1.Sets, .d (eL none (eL none (D.int .u16)) r6.1.States)]), (1, .var [vl1 y9, vl0 y10, .d (eL none (eL none (D.int .u16)) y11), .d (.int .u64 i12), .loc 2 0 l13.length, .loc 3 0 l14.length]), (2, .lst true (some 2) (List.map ectrl_peer l13)), (3, .lst false none (List.map (D.int .i64) l14))]) 4 (some (.var [vi 0, vi 0, vi 0, .d (.int .u64 0)]))) 4 (some (.var [vi x22.What, vi x22.I, vi x22.N, .d (.int .u64 x22.S)])))) (n' := 5) rfl ?_
       exact nR [0, 1, 2, 3, 4]
      refine NWp.opsJ ⟨tab [(5, .ptr 0 0 0), (7, .ptr 1 0 0), (8, .d (.int .u64 i15)), (10, .ptr 4 0 0), (11, vi (r6.1.Sets.length : Int)), (41, vl5 a1), (42, vi (a1.length : Int)), (43, vi i16)], stab [(0, .var [vl1 r6.1.Events, vl0 r6.1.Sets, .d (eL none (eL none (D.int .u16)) r6.1.States)]), (1, .var [vl1 y9, vl0 y10, .d (eL none (eL none (D.int .u16)) y11), .d (.int .u64 i12), .loc 2 0 l13.length, .loc 3 0 l14.length]), (2, .lst true (some 2) (List.map ectrl_peer l13)), (3, .lst false none (List.map (D.int .i64) l14)), (4, .var [vi x22.What, vi x22.I, vi x22.N, .d (.int .u64 x22.S)])], 5⟩ ?_ ?_
      ·
       refine q1 (.ptr 0 0 1) ?_
       refine q1 (vl0 r6.1.Sets) ?_
       refine step (v := vi (r6.1.Sets.length : Int)) (st_len (xs := r6.1.Sets) (e := (D.int .u64)) rfl) ?_
       refine q1 (vi (r6.1.Sets.length : Int)) ?_
       exact nR [0, 1, 2, 3, 4]
      obtain ⟨q23, hq23, h⟩ := bindE h
      obtain ⟨q24, hq24, h⟩ := bindE h
      obtain ⟨x25, hx25, h⟩ := bindE h
      refine NWp.opsJ ⟨tab [(5, .ptr 0 0 0), (7, .ptr 1 0 0), (8, .d (.int .u64 i15)), (10, .ptr 4 0 0), (12, .d (.int .u64 x25)), (13, vi ((IntKind.i64.wrap ((x22.I.tmod 12) + 12)).tmod 12)), (41, vl5 a1), (42, vi (a1.length : Int)), (43, vi i16)], stab [(0, .var [vl1 r6.1.Events, vl0 r6.1.Sets, .d (eL none (eL none (D.int .u16)) r6.1.States)]), (1, .var [vl1 y9, vl0 y10, .d (eL none (eL none (D.int .u16)) y11), .d (.int .u64 i12), .loc 2 0 l13.length, .loc 3 0 l14.length]), (2, .lst true (some 2) (List.map ectrl_peer l13)), (3, .lst false none (List.map (D.int .i64) l14)), (4, .var [vi x22.What, vi x22.I, vi x22.N, .d (.int .u64 x22.S)])], 5⟩ ?_ ?_
      ·
       refine q1 (.ptr 0 0 1) ?_
       refine q1 (vl0 r6.1.Sets) ?_
       refine q1 (.ptr 4 0 2) ?_
       refine q1 (vi x22.N) ?_
       refine q1 (vi (r6.1.Sets.length : Int)) ?_
       refine step (v := vi q23) (st_rem hq23 rfl rfl) ?_
       refine q1 (vi (r6.1.Sets.length : Int)) ?_
       refine q1 (vi (IntKind.i64.wrap (q23 + (r6.1.Sets.length : Int)))) ?_
       refine q1 (vi (r6.1.Sets.length : Int)) ?_
       refine step (v := vi q24) (st_rem hq24 rfl rfl) ?_
       refine step (v := .d (.cptr none (.int .u64 x25) 0)) (st_iaddr (xs := r6.1.Sets) (e := (D.int .u64)) hx25 rfl rfl) ?_
       refine q1 (.d (.int .u64 x25)) ?_
       refine q1 (.ptr 4 0 1) ?_
       refine q1 (vi x22.I) ?_
       refine q1 (vi (x22.I.tmod 12)) ?_
       refine q1 (vi (IntKind.i64.wrap ((x22.I.tmod 12) + 12))) ?_
       refine q1 (vi ((IntKind.i64.wrap ((x22.I.tmod 12) + 12)).tmod 12)) ?_
       refine q1 (.d (.int .u64 x25)) ?_
       refine q1 (vi ((IntKind.i64.wrap ((x22.I.tmod 12) + 12)).tmod 12)) ?_
       exact nR [0, 1, 2, 3, 4]
      obtain ⟨r26, hr26, h⟩ := bindE h
      refine NWp.opsJ ⟨tab [(5, .ptr 0 0 0), (7, .ptr 1 0 0), (8, .d (.int .u64 i15)), (10, .ptr 4 0 0), (12, .d (.int .u64 x25)), (13, vi ((IntKind.i64.wrap ((x22.I.tmod 12) + 12)).tmod 12)), (14, .d (.int .u64 r26)), (41, vl5 a1), (42, vi (a1.length : Int)), (43, vi i16)], stab [(0, .var [vl1 r6.1.Events, vl0 r6.1.Sets, .d (eL none (eL none (D.int .u16)) r6.1.States)]), (1, .var [vl1 y9, vl0 y10, .d (eL none (eL none (D.int .u16)) y11), .d (.int .u64 i12), .loc 2 0 l13.length, .loc 3 0 l14.length]), (2, .lst true (some 2) (List.map ectrl_peer l13)), (3, .lst false none (List.map (D.int .i64) l14)), (4, .var [vi x22.What, vi x22.I, vi x22.N, .d (.int .u64 x22.S)])], 5⟩ ?_ ?_
      ·
       refine q1 (.ptr 1 0 0) ?_
       refine stepW (v := .d (.int .u64 r26)) (σ' := _) (n' := _) (PCall.borrow (c_ctrl_Ctrl_Known hr26) rfl (ViewsB.c (viewB_var rfl (ViewsB.c (.d _) (ViewsB.c (.d _) (ViewsB.c (.d _) (ViewsB.c (.d _) (ViewsB.c (viewB_all (xs := l13) (e := ectrl_peer) rfl rfl) (ViewsB.c (viewB_all (xs := l14) (e := (D.int .i64)) rfl rfl) ViewsB.nil0))))))) ViewsB.nil0)) (Nat.le_refl _) ?_
       refine q1 (.d (.int .u64 r26)) ?_
       exact nR [0, 1, 2, 3, 4]
      refine NWp.seq ?_
      refine NWp.opsJ ⟨tab [(5, .ptr 0 0 0), (7, .ptr 1 0 0), (8, .d (.int .u64 i15)), (12, .d (.int .u64 x25)), (13, vi ((IntKind.i64.wrap ((x22.I.tmod 12) + 12)).tmod 12)), (14, .d (.int .u64 r26)), (41, vl5 a1), (42, vi (a1.length : Int)), (43, vi i16), (71, vb (x22.What == 2))], stab [(0, .var [vl1 r6.1.Events, vl0 r6.1.Sets, .d (eL none (eL none (D.int .u16)) r6.1.States)]), (1, .var [vl1 y9, vl0 y10, .d (eL none (eL none (D.int .u16)) y11), .d (.int .u64 i12), .loc 2 0 l13.length, .loc 3 0 l14.length]), (2, .lst true (some 2) (List.map ectrl_peer l13)), (3, .lst false none (List.map (D.int .i64) l14))], 4⟩ ?_ ?_
      ·
       refine q1 (.ptr 4 0 0) ?_
       refine q1 (vi x22.What) ?_
       refine q1 (vb (x22.What == 2)) ?_
       exact nR [0, 1, 2, 3]
      by_cases hc27 : (x22.What == 2) = true
      ·
       replace h := iteT hc27 h
       refine NWp.condT (t := (x22.What == 2)) rfl hc27 ?_
       refine NWp.seq ?_
       obtain ⟨r28, hr28, h⟩ := bindE h
       refine NWp.opsJ ⟨tab [(5, .ptr 0 0 0), (7, .ptr 1 0 0), (8, .d (.int .u64 i15)), (13, vi ((IntKind.i64.wrap ((x22.I.tmod 12) + 12)).tmod 12)), (14, .d (.int .u64 r26)), (15, .d (.int .u64 r28.1)), (16, vi r28.2.1), (41, vl5 a1), (42, vi (a1.length : Int)), (43, vi i16)], stab [(0, .var [vl1 r6.1.Events, vl0 r6.1.Sets, .d (eL none (eL none (D.int .u16)) r6.1.States)]), (1, .var [vl1 r28.2.2.n_.Events, vl0 r28.2.2.n_.Sets, .d (eL none (eL none (D.int .u16)) r28.2.2.n_.States), .d (.int .u64 r28.2.2.known), .loc 2 0 r28.2.2.peers.length, .loc 3 0 r28.2.2.order.length]), (2, .lst true (some 2) (List.map ectrl_peer r28.2.2.peers)), (3, .lst false none (List.map (D.int .i64) r28.2.2.order))], 4⟩ ?_ ?_
       ·
        refine q1 (.ptr 1 0 0) ?_
        refine q1 (vi ((IntKind.i64.wrap ((x22.I.tmod 12) + 12)).tmod 12)) ?_
        refine stepW (v := .d (.tup [.int .u64 r28.1, .int .i64 r28.2.1])) (σ' := (upd (upd (upd (upd (upd (upd (stab [(0, .var [vl1 r6.1.Events, vl0 r6.1.Sets, .d (eL none (eL none (D.int .u16)) r6.1.States)]), (1, .var [vl1 y9, vl0 y10, .d (eL none (eL none (D.int .u16)) y11), .d (.int .u64 i12), .loc 2 0 l13.length, .loc 3 0 l14.length]), (2, .lst true (some 2) (List.map ectrl_peer l13)), (3, .lst false none (List.map (D.int .i64) l14))]) 3 none) 2 none) 1 none) 3 (some (.lst false none (List.map (D.int .i64) r28.2.2.order)))) 2 (some (.lst true (some 2) (List.map ectrl_peer r28.2.2.peers)))) 1 (some (.var [vl1 r28.2.2.n_.Events, vl0 r28.2.2.n_.Sets, .d (eL none (eL none (D.int .u16)) r28.2.2.n_.States), .d (.int .u64 r28.2.2.known), .loc 2 0 r28.2.2.peers.length, .loc 3 0 r28.2.2.order.length])))) (n' := 4) (SCall.lift [1, 2, 3] (c_ctrl_Ctrl_Tell hr28) (show 3 ≤ 3 by decide) (by decide) (show ∀ i ∈ [1, 2, 3], i < 4 by decide) (dom_c (show 0 < 3 by decide) (dom_c (show 1 < 3 by decide) (dom_c (show 2 < 3 by decide) dom_n))) (VNs.c (.pt 0) (VNs.c (.d _) VNs.nil0)) (SN.c (show 0 < 3 by decide) rfl (.vars (VNs.c (.d _) (VNs.c (.d _) (VNs.c (.d _) (VNs.c (.d _) (VNs.c (.lc 1) (VNs.c (.lc 2) VNs.nil0))))))) (SN.c (show 1 < 3 by decide) rfl (.lst _ _ _) (SN.c (show 2 < 3 by decide) rfl (.lst _ _ _) SN.nil0)))) (show 4 ≤ 4 by decide) ?_
        refine q1 (.d (.tup [.int .u64 r28.1, .int .i64 r28.2.1])) ?_
        refine q1 (.d (.int .u64 r28.1)) ?_
        refine q1 (vi r28.2.1) ?_
        refine q1 (.d (.int .u64 r28.1)) ?_
        refine q1 (vi r28.2.1) ?_
        exact nR [0, 1, 2, 3]
       obtain ⟨y32, hv, h⟩ := bindE h
       refine NWp.opsJ ⟨tab [(5, .ptr 0 0 0), (7, .ptr 1 0 0), (8, .d (.int .u64 i15)), (41, vl5 a1), (42, vi (a1.length : Int)), (43, vi i16), (89, vb y32)], stab [(0, .var [vl1 r6.1.Events, vl0 r6.1.Sets, .d (eL none (eL none (D.int .u16)) r6.1.States)]), (1, .var [vl1 r28.2.2.n_.Events, vl0 r28.2.2.n_.Sets, .d (eL none (eL none (D.int .u16)) r28.2.2.n_.States), .d (.int .u64 r28.2.2.known), .loc 2 0 r28.2.2.peers.length, .loc 3 0 r28.2.2.order.length]), (2, .lst true (some 2) (List.map ectrl_peer r28.2.2.peers)), (3, .lst false none (List.map (D.int .i64) r28.2.2.order))], 4⟩ ?_ ?_
       ·
        refine q1 (vi r28.2.1) ?_
        refine q1 (vb (r28.2.1 != 0)) ?_
        refine q1 (vb (r28.2.1 != 0)) ?_
        by_cases hg29 : (r28.2.1 != 0) = true
        ·
         replace hv := iteT hg29 hv
         refine qX (r28.2.1 != 0) (by rw [hg29]; decide) ?_
         refine qX (r28.2.1 != 0) (by rw [hg29]; decide) ?_
         refine qX (r28.2.1 != 0) (by rw [hg29]; decide) ?_
         refine step (v := vb true) (st_pickT (b := (r28.2.1 != 0)) rfl hg29 rfl) ?_
         refine q1 (vb true) ?_
         refine qX true (by decide) ?_
         refine qX true (by decide) ?_
         refine qX true (by decide) ?_
         refine step (v := vb true) (st_pickT (b := true) rfl rfl rfl) ?_
         have hh := Option.some.inj hv
         subst hh
         exact nR [0, 1, 2, 3]
        ·
         replace hv := iteF hg29 hv
         refine qG (r28.2.1 != 0) (Bool.eq_false_iff.2 hg29) ?_
         refine q1 (.d (.int .u64 r28.1)) ?_
         refine qG (r28.2.1 != 0) (Bool.eq_false_iff.2 hg29) ?_
         refine q1 (.d (.int .u64 r26)) ?_
         refine qG (r28.2.1 != 0) (Bool.eq_false_iff.2 hg29) ?_
         refine q1 (vb (r28.1 != r26)) ?_
         refine step (v := vb (r28.1 != r26)) (st_pickF (b := (r28.2.1 != 0)) rfl hg29 rfl) ?_
         refine q1 (vb (r28.1 != r26)) ?_
         by_cases hg30 : (r28.1 != r26) = true
         ·
          replace hv := iteT hg30 hv
          refine qX (r28.1 != r26) (by rw [hg30]; decide) ?_
          refine qX (r28.1 != r26) (by rw [hg30]; decide) ?_
          refine qX (r28.1 != r26) (by rw [hg30]; decide) ?_
          refine step (v := vb true) (st_pickT (b := (r28.1 != r26)) rfl hg30 rfl) ?_
          have hh := Option.some.inj hv
          subst hh
          exact nR [0, 1, 2, 3]
         ·
          replace hv := iteF hg30 hv
          obtain ⟨r31, hr31, hv⟩ := bindE hv
          refine qG (r28.1 != r26) (Bool.eq_false_iff.2 hg30) ?_
          refine q1 (.ptr 1 0 0) ?_
          refine qG (r28.1 != r26) (Bool.eq_false_iff.2 hg30) ?_
          refine q1 (vi ((IntKind.i64.wrap ((x22.I.tmod 12) + 12)).tmod 12)) ?_
          refine qG (r28.1 != r26) (Bool.eq_false_iff.2 hg30) ?_
          refine stepW (v := vb r31) (σ' := _) (n' := _) (PCall.borrow (c_ctrl_Ctrl_Owes hr31) rfl (ViewsB.c (viewB_var rfl (ViewsB.c (.d _) (ViewsB.c (.d _) (ViewsB.c (.d _) (ViewsB.c (.d _) (ViewsB.c (viewB_all (xs := r28.2.2.peers) (e := ectrl_peer) rfl rfl) (ViewsB.c (viewB_all (xs := r28.2.2.order) (e := (D.int .i64)) rfl rfl) ViewsB.nil0))))))) (ViewsB.c (.d _) ViewsB.nil0))) (Nat.le_refl _) ?_
          refine step (v := vb r31) (st_pickF (b := (r28.1 != r26)) rfl hg30 rfl) ?_
          have hh := Option.some.inj hv
          subst hh
          exact nR [0, 1, 2, 3]
       by_cases hc34 : y32 = true
       ·
        replace h := iteT hc34 h
        refine NWp.condT (t := y32) rfl hc34 ?_
        refine NWp.opsJ ⟨tab [(4, vb false)], stab [], 0⟩ ?_ ?_
        ·
         refine q1 (vb false) ?_
         exact nR []
        obtain ⟨r35, kr35, hr⟩ := mapE (o := some (Br.ret false)) (g := Sum.inr) h
        subst hr
        have h := kr35
        obtain ⟨r36, kr36, hr⟩ := mapE (o := some false) (g := Br.ret) h
        subst hr
        have h := kr36
        have hh := Option.some.inj h
        subst hh
        refine NWp.ret ?_
        refine And.intro (fun hn => nomatch hn) ?_
        intro hq
        have hq := hq.symm
        subst hq
        refine And.intro (fun hn => nomatch hn) ?_
        intro hq
        have hq := hq.symm
        subst hq
        show FQ _ _ _ _
        exact FQ.mk1 (.inr rfl) (res_t (v := vb false) rfl rfl) (RV.d trivial)
       ·
        replace h := iteF hc34 h
        refine NWp.condF (t := y32) rfl hc34 ?_
        refine NWp.skip ?_
        have hh := Option.some.inj h
        subst hh
        refine NWp.norm (s0 := ⟨tab [(5, .ptr 0 0 0), (7, .ptr 1 0 0), (8, .d (.int .u64 i15)), (41, vl5 a1), (42, vi (a1.length : Int)), (43, vi i16)], stab [(0, .var [vl1 r6.1.Events, vl0 r6.1.Sets, .d (eL none (eL none (D.int .u16)) r6.1.States)]), (1, .var [vl1 r28.2.2.n_.Events, vl0 r28.2.2.n_.Sets, .d (eL none (eL none (D.int .u16)) r28.2.2.n_.States), .d (.int .u64 r28.2.2.known), .loc 2 0 r28.2.2.peers.length, .loc 3 0 r28.2.2.order.length]), (2, .lst true (some 2) (List.map ectrl_peer r28.2.2.peers)), (3, .lst false none (List.map (D.int .i64) r28.2.2.order))], 4⟩) (nr [0, 1, 2, 3]) ?_
        refine NWp.exit ?_
        exact And.intro rfl rfl
      ·
       replace h := iteF hc27 h
       refine NWp.condF (t := (x22.What == 2)) rfl hc27 ?_
       refine NWp.skip ?_
       obtain ⟨q46, hv, h⟩ := bindE h
       refine NWp.seqS (fun (qq : ((List api_Event) × (List Int) × (List (List Int)) × Int × (List ctrl_peer) × (List Int) × Int)) => ⟨tab [(5, .ptr 0 0 0), (7, .ptr 1 0 0), (8, .d (.int .u64 qq.2.2.2.2.2.2)), (14, .d (.int .u64 r26)), (41, vl5 a1), (42, vi (a1.length : Int)), (43, vi i16)], stab [(0, .var [vl1 r6.1.Events, vl0 r6.1.Sets, .d (eL none (eL none (D.int .u16)) r6.1.States)]), (1, .var [vl1 qq.1, vl0 qq.2.1, .d (eL none (eL none (D.int .u16)) qq.2.2.1), .d (.int .u64 qq.2.2.2.1), .loc 2 0 qq.2.2.2.2.1.length, .loc 3 0 qq.2.2.2.2.2.1.length]), (2, .lst true (some 2) (List.map ectrl_peer qq.2.2.2.2.1)), (3, .lst false none (List.map (D.int .i64) qq.2.2.2.2.2.1))], 4⟩) (xv := q46) (r := q81) ?_ ?_ ?_
       ·
        replace h := hv
        obtain ⟨r35, hr35, h⟩ := bindE h
        refine NWp.opsJ ⟨tab [(5, .ptr 0 0 0), (7, .ptr 1 0 0), (8, .d (.int .u64 i15)), (12, .d (.int .u64 x25)), (14, .d (.int .u64 r26)), (17, vi r35.1), (41, vl5 a1), (42, vi (a1.length : Int)), (43, vi i16)], stab [(0, .var [vl1 r6.1.Events, vl0 r6.1.Sets, .d (eL none (eL none (D.int .u16)) r6.1.States)]), (1, .var [vl1 r35.2.n_.Events, vl0 r35.2.n_.Sets, .d (eL none (eL none (D.int .u16)) r35.2.n_.States), .d (.int .u64 r35.2.known), .loc 2 0 r35.2.peers.length, .loc 3 0 r35.2.order.length]), (2, .lst true (some 2) (List.map ectrl_peer r35.2.peers)), (3, .lst false none (List.map (D.int .i64) r35.2.order))], 4⟩ ?_ ?_
        ·
         refine q1 (.ptr 1 0 0) ?_
         refine q1 (vi ((IntKind.i64.wrap ((x22.I.tmod 12) + 12)).tmod 12)) ?_
         refine q1 (.d (.int .u64 x25)) ?_
         refine stepW (v := vi r35.1) (σ' := (upd (upd (upd (upd (upd (upd (stab [(0, .var [vl1 r6.1.Events, vl0 r6.1.Sets, .d (eL none (eL none (D.int .u16)) r6.1.States)]), (1, .var [vl1 y9, vl0 y10, .d (eL none (eL none (D.int .u16)) y11), .d (.int .u64 i12), .loc 2 0 l13.length, .loc 3 0 l14.length]), (2, .lst true (some 2) (List.map ectrl_peer l13)), (3, .lst false none (List.map (D.int .i64) l14))]) 3 none) 2 none) 1 none) 4 (some (.lst false none (List.map (D.int .i64) r35.2.order)))) 2 (some (.lst true (some 2) (List.map ectrl_peer r35.2.peers)))) 1 (some (.var [vl1 r35.2.n_.Events, vl0 r35.2.n_.Sets, .d (eL none (eL none (D.int .u16)) r35.2.n_.States), .d (.int .u64 r35.2.known), .loc 2 0 r35.2.peers.length, .loc 4 0 r35.2.order.length])))) (n' := 5) (SCall.lift [1, 2, 3] (c_ctrl_Ctrl_Hear hr35) (show 3 ≤ 4 by decide) (by decide) (show ∀ i ∈ [1, 2, 3], i < 4 by decide) (dom_c (show 0 < 4 by decide) (dom_c (show 1 < 4 by decide) (dom_c (show 3 < 4 by decide) dom_n))) (VNs.c (.pt 0) (VNs.c (.d _) (VNs.c (.d _) VNs.nil0))) (SN.c (show 0 < 3 by decide) rfl (.vars (VNs.c (.d _) (VNs.c (.d _) (VNs.c (.d _) (VNs.c (.d _) (VNs.c (.lc 1) (VNs.c (.lc 2) VNs.nil0))))))) (SN.c (show 1 < 3 by decide) rfl (.lst _ _ _) (SN.c (show 2 < 3 by decide) rfl (.lst _ _ _) SN.nil0)))) (show 4 ≤ 5 by decide) ?_
         refine q1 (vi r35.1) ?_
         exact nR [0, 1, 2, 4]
        refine NWp.opsJ ⟨tab [(5, .ptr 0 0 0), (7, .ptr 1 0 0), (8, .d (.int .u64 i15)), (12, .d (.int .u64 x25)), (14, .d (.int .u64 r26)), (41, vl5 a1), (42, vi (a1.length : Int)), (43, vi i16), (95, vb (r35.1 == 0))], stab [(0, .var [vl1 r6.1.Events, vl0 r6.1.Sets, .d (eL none (eL none (D.int .u16)) r6.1.States)]), (1, .var [vl1 r35.2.n_.Events, vl0 r35.2.n_.Sets, .d (eL none (eL none (D.int .u16)) r35.2.n_.States), .d (.int .u64 r35.2.known), .loc 2 0 r35.2.peers.length, .loc 3 0 r35.2.order.length]), (2, .lst true (some 2) (List.map ectrl_peer r35.2.peers)), (3, .lst false none (List.map (D.int .i64) r35.2.order))], 4⟩ ?_ ?_
        ·
         refine q1 (vi r35.1) ?_
         refine q1 (vb (r35.1 == 0)) ?_
         exact nR [0, 1, 2, 3]
        by_cases hc36 : (r35.1 == 0) = true
        ·
         replace h := iteT hc36 h
         refine NWp.condT (t := (r35.1 == 0)) rfl hc36 ?_
         have hh := Option.some.inj h
         subst hh
         refine NWp.opsE ⟨tab [(5, .ptr 0 0 0), (7, .ptr 1 0 0), (8, .d (.int .u64 (orI .u64 i15 x25))), (14, .d (.int .u64 r26)), (41, vl5 a1), (42, vi (a1.length : Int)), (43, vi i16)], stab [(0, .var [vl1 r6.1.Events, vl0 r6.1.Sets, .d (eL none (eL none (D.int .u16)) r6.1.States)]), (1, .var [vl1 r35.2.n_.Events, vl0 r35.2.n_.Sets, .d (eL none (eL none (D.int .u16)) r35.2.n_.States), .d (.int .u64 r35.2.known), .loc 2 0 r35.2.peers.length, .loc 3 0 r35.2.order.length]), (2, .lst true (some 2) (List.map ectrl_peer r35.2.peers)), (3, .lst false none (List.map (D.int .i64) r35.2.order))], 4⟩ ?_ ?_
         ·
          refine q1 (.d (.int .u64 i15)) ?_
          refine q1 (.d (.int .u64 x25)) ?_
          refine q1 (.d (.int .u64 (orI .u64 i15 x25))) ?_
          refine q1 (.d (.int .u64 (orI .u64 i15 x25))) ?_
          exact nR [0, 1, 2, 3]
         exact And.intro rfl rfl
        ·
         replace h := iteF hc36 h
         refine NWp.condF (t := (r35.1 == 0)) rfl hc36 ?_
         obtain ⟨r37, hr37, h⟩ := bindE h
         refine NWp.opsJ ⟨tab [(5, .ptr 0 0 0), (7, .ptr 1 0 0), (8, .d (.int .u64 i15)), (14, .d (.int .u64 r26)), (41, vl5 a1), (42, vi (a1.length : Int)), (43, vi i16), (104, vb (decide (r37 ≥ 0)))], stab [(0, .var [vl1 r6.1.Events, vl0 r6.1.Sets, .d (eL none (eL none (D.int .u16)) r6.1.States)]), (1, .var [vl1 r35.2.n_.Events, vl0 r35.2.n_.Sets, .d (eL none (eL none (D.int .u16)) r35.2.n_.States), .d (.int .u64 r35.2.known), .loc 2 0 r35.2.peers.length, .loc 3 0 r35.2.order.length]), (2, .lst true (some 2) (List.map ectrl_peer r35.2.peers)), (3, .lst false none (List.map (D.int .i64) r35.2.order))], 4⟩ ?_ ?_
         ·
          refine step (v := vs1 r6.1) (st_ldV (ds := [eL (some 2) eapi_Event r6.1.Events, eL none (D.int .u64) r6.1.Sets, eL none (eL none (D.int .u16)) r6.1.States]) rfl rfl (show 3 ≤ 3 by decide) rfl) ?_
          refine q1 (.d (.int .u64 r26)) ?_
          refine q1 (.d (.int .u64 x25)) ?_
          refine q1 (.d (.int .u64 (orI .u64 r26 x25))) ?_
          refine stepC (r := .int .i64 r37) (ArgsOk.dt (ArgsOk.dt ArgsOk.nil')) (c_ref12_Tag hr37) ?_
          refine q1 (vb (decide (r37 ≥ 0))) ?_
          exact nR [0, 1, 2, 3]
         by_cases hc38 : decide (r37 ≥ 0) = true
         ·
          replace h := iteT hc38 h
          refine NWp.condT (t := decide (r37 ≥ 0)) rfl hc38 ?_
          refine NWp.opsJ ⟨tab [(4, vb false)], stab [], 0⟩ ?_ ?_
          ·
           refine q1 (vb false) ?_
           exact nR []
          obtain ⟨r39, kr39, hr⟩ := mapE (o := some (Sum.inr (Br.ret false))) (g := Sum.inr) h
          subst hr
          have h := kr39
          obtain ⟨r40, kr40, hr⟩ := mapE (o := some (Br.ret false)) (g := Sum.inr) h
          subst hr
          have h := kr40
          obtain ⟨r41, kr41, hr⟩ := mapE (o := some false) (g := Br.ret) h
          subst hr
          have h := kr41
          have hh := Option.some.inj h
          subst hh
          refine NWp.ret ?_
          refine And.intro (fun hn => nomatch hn) ?_
          intro hq
          have hq := hq.symm
          subst hq
          refine And.intro (fun hn => nomatch hn) ?_
          intro hq
          have hq := hq.symm
          subst hq
          refine And.intro (fun hn => nomatch hn) ?_
          intro hq
          have hq := hq.symm
          subst hq
          show FQ _ _ _ _
          exact FQ.mk1 (.inr rfl) (res_t (v := vb false) rfl rfl) (RV.d trivial)
         ·
          replace h := iteF hc38 h
          refine NWp.condF (t := decide (r37 ≥ 0)) rfl hc38 ?_
          have hh := Option.some.inj h
          subst hh
          refine NWp.norm (s0 := ⟨tab [(5, .ptr 0 0 0), (7, .ptr 1 0 0), (8, .d (.int .u64 i15)), (14, .d (.int .u64 r26)), (41, vl5 a1), (42, vi (a1.length : Int)), (43, vi i16)], stab [(0, .var [vl1 r6.1.Events, vl0 r6.1.Sets, .d (eL none (eL none (D.int .u16)) r6.1.States)]), (1, .var [vl1 r35.2.n_.Events, vl0 r35.2.n_.Sets, .d (eL none (eL none (D.int .u16)) r35.2.n_.States), .d (.int .u64 r35.2.known), .loc 2 0 r35.2.peers.length, .loc 3 0 r35.2.order.length]), (2, .lst true (some 2) (List.map ectrl_peer r35.2.peers)), (3, .lst false none (List.map (D.int .i64) r35.2.order))], 4⟩) (nr [0, 1, 2, 3]) ?_
          refine NWp.skip ?_
          exact And.intro rfl rfl
       ·
        intro r' hq
        subst hq
        exact Option.some.inj h
       rintro ⟨y39, y40, y41, y42, l43, l44, y45⟩ rfl
       show NWp _ _ _ _ _ ⟨tab [(5, .ptr 0 0 0), (7, .ptr 1 0 0), (8, .d (.int .u64 y45)), (14, .d (.int .u64 r26)), (41, vl5 a1), (42, vi (a1.length : Int)), (43, vi i16)], stab [(0, .var [vl1 r6.1.Events, vl0 r6.1.Sets, .d (eL none (eL none (D.int .u16)) r6.1.States)]), (1, .var [vl1 y39, vl0 y40, .d (eL none (eL none (D.int .u16)) y41), .d (.int .u64 y42), .loc 2 0 l43.length, .loc 3 0 l44.length]), (2, .lst true (some 2) (List.map ectrl_peer l43)), (3, .lst false none (List.map (D.int .i64) l44))], 4⟩
       refine NWp.seq ?_
       obtain ⟨r47, hr47, h⟩ := bindE h
       obtain ⟨q61, hv, h⟩ := bindE h
       obtain ⟨y54, y55, y56, y57, l58, l59, y60⟩ := q61
       refine NWp.opsJ ⟨tab [(5, .ptr 0 0 0), (7, .ptr 1 0 0), (8, .d (.int .u64 y45)), (41, vl5 a1), (42, vi (a1.length : Int)), (43, vi i16), (131, vb y60)], stab [(0, .var [vl1 r6.1.Events, vl0 r6.1.Sets, .d (eL none (eL none (D.int .u16)) r6.1.States)]), (1, .var [vl1 y54, vl0 y55, .d (eL none (eL none (D.int .u16)) y56), .d (.int .u64 y57), .loc 2 0 l58.length, .loc 3 0 l59.length]), (2, .lst true (some 2) (List.map ectrl_peer l58)), (3, .lst false none (List.map (D.int .i64) l59))], 4⟩ ?_ ?_
       ·
        refine q1 (.ptr 1 0 0) ?_
        refine stepW (v := .d (.int .u64 r47)) (σ' := _) (n' := _) (PCall.borrow (c_ctrl_Ctrl_Known hr47) rfl (ViewsB.c (viewB_var rfl (ViewsB.c (.d _) (ViewsB.c (.d _) (ViewsB.c (.d _) (ViewsB.c (.d _) (ViewsB.c (viewB_all (xs := l43) (e := ectrl_peer) rfl rfl) (ViewsB.c (viewB_all (xs := l44) (e := (D.int .i64)) rfl rfl) ViewsB.nil0))))))) ViewsB.nil0)) (Nat.le_refl _) ?_
        refine q1 (.d (.int .u64 y45)) ?_
        refine q1 (vb (r47 != y45)) ?_
        refine q1 (vb (r47 != y45)) ?_
        by_cases hg48 : (r47 != y45) = true
        ·
         replace hv := iteT hg48 hv
         refine qX (r47 != y45) (by rw [hg48]; decide) ?_
         refine qX (r47 != y45) (by rw [hg48]; decide) ?_
         refine qX (r47 != y45) (by rw [hg48]; decide) ?_
         refine qX (r47 != y45) (by rw [hg48]; decide) ?_
         refine qX (r47 != y45) (by rw [hg48]; decide) ?_
         refine qX (r47 != y45) (by rw [hg48]; decide) ?_
         refine step (v := vb true) (st_pickT (b := (r47 != y45)) rfl hg48 rfl) ?_
         refine q1 (vb true) ?_
         refine qX true (by decide) ?_
         refine qX true (by decide) ?_
         refine qX true (by decide) ?_
         refine qX true (by decide) ?_
         refine step (v := vb true) (st_pickT (b := true) rfl rfl rfl) ?_
         refine q1 (vb true) ?_
         refine qX true (by decide) ?_
         refine qX true (by decide) ?_
         refine qX true (by decide) ?_
         refine qX true (by decide) ?_
         refine qX true (by decide) ?_
         refine qX true (by decide) ?_
         refine qX true (by decide) ?_
         refine step (v := vb true) (st_pickT (b := true) rfl rfl rfl) ?_
         have hh := Option.some.inj hv
         obtain ⟨he0, ht0⟩ := Prod.mk.inj hh
         obtain ⟨he1, ht1⟩ := Prod.mk.inj ht0
         obtain ⟨he2, ht2⟩ := Prod.mk.inj ht1
         obtain ⟨he3, ht3⟩ := Prod.mk.inj ht2
         obtain ⟨he4, ht4⟩ := Prod.mk.inj ht3
         obtain ⟨he5, ht5⟩ := Prod.mk.inj ht4
         subst he0
         subst he1
         subst he2
         subst he3
         subst he4
         subst he5
         subst ht5
         exact nR [0, 1, 2, 3]
        ·
         replace hv := iteF hg48 hv
         refine qG (r47 != y45) (Bool.eq_false_iff.2 hg48) ?_
         refine q1 (.ptr 1 0 0) ?_
         refine qG (r47 != y45) (Bool.eq_false_iff.2 hg48) ?_
         refine stepW (v := .d (.int .u64 r47)) (σ' := _) (n' := _) (PCall.borrow (c_ctrl_Ctrl_Known hr47) rfl (ViewsB.c (viewB_var rfl (ViewsB.c (.d _) (ViewsB.c (.d _) (ViewsB.c (.d _) (ViewsB.c (.d _) (ViewsB.c (viewB_all (xs := l43) (e := ectrl_peer) rfl rfl) (ViewsB.c (viewB_all (xs := l44) (e := (D.int .i64)) rfl rfl) ViewsB.nil0))))))) ViewsB.nil0)) (Nat.le_refl _) ?_
         refine qG (r47 != y45) (Bool.eq_false_iff.2 hg48) ?_
         refine q1 (.d (.int .u64 r26)) ?_
         refine qG (r47 != y45) (Bool.eq_false_iff.2 hg48) ?_
         refine q1 (.d (.int .u64 (andI .u64 r47 r26))) ?_
         refine qG (r47 != y45) (Bool.eq_false_iff.2 hg48) ?_
         refine q1 (.d (.int .u64 r26)) ?_
         refine qG (r47 != y45) (Bool.eq_false_iff.2 hg48) ?_
         refine q1 (vb ((andI .u64 r47 r26) != r26)) ?_
         refine step (v := vb ((andI .u64 r47 r26) != r26)) (st_pickF (b := (r47 != y45)) rfl hg48 rfl) ?_
         refine q1 (vb ((andI .u64 r47 r26) != r26)) ?_
         by_cases hg49 : ((andI .u64 r47 r26) != r26) = true
         ·
          replace hv := iteT hg49 hv
          refine qX ((andI .u64 r47 r26) != r26) (by rw [hg49]; decide) ?_
          refine qX ((andI .u64 r47 r26) != r26) (by rw [hg49]; decide) ?_
          refine qX ((andI .u64 r47 r26) != r26) (by rw [hg49]; decide) ?_
          refine qX ((andI .u64 r47 r26) != r26) (by rw [hg49]; decide) ?_
          refine step (v := vb true) (st_pickT (b := ((andI .u64 r47 r26) != r26)) rfl hg49 rfl) ?_
          refine q1 (vb true) ?_
          refine qX true (by decide) ?_
          refine qX true (by decide) ?_
          refine qX true (by decide) ?_
          refine qX true (by decide) ?_
          refine qX true (by decide) ?_
          refine qX true (by decide) ?_
          refine qX true (by decide) ?_
          refine step (v := vb true) (st_pickT (b := true) rfl rfl rfl) ?_
          have hh := Option.some.inj hv
          obtain ⟨he0, ht0⟩ := Prod.mk.inj hh
          obtain ⟨he1, ht1⟩ := Prod.mk.inj ht0
          obtain ⟨he2, ht2⟩ := Prod.mk.inj ht1
          obtain ⟨he3, ht3⟩ := Prod.mk.inj ht2
          obtain ⟨he4, ht4⟩ := Prod.mk.inj ht3
          obtain ⟨he5, ht5⟩ := Prod.mk.inj ht4
          subst he0
          subst he1
          subst he2
          subst he3
          subst he4
          subst he5
          subst ht5
          exact nR [0, 1, 2, 3]
         ·
          replace hv := iteF hg49 hv
          obtain ⟨r50, hr50, hv⟩ := bindE hv
          refine qG ((andI .u64 r47 r26) != r26) (Bool.eq_false_iff.2 hg49) ?_
          refine step (v := vs1 r6.1) (st_ldV (ds := [eL (some 2) eapi_Event r6.1.Events, eL none (D.int .u64) r6.1.Sets, eL none (eL none (D.int .u16)) r6.1.States]) rfl rfl (show 3 ≤ 3 by decide) rfl) ?_
          refine qG ((andI .u64 r47 r26) != r26) (Bool.eq_false_iff.2 hg49) ?_
          refine q1 (.d (.int .u64 y45)) ?_
          refine qG ((andI .u64 r47 r26) != r26) (Bool.eq_false_iff.2 hg49) ?_
          refine stepC (r := .int .i64 r50) (ArgsOk.dt (ArgsOk.dt ArgsOk.nil')) (c_ref12_Tag hr50) ?_
          refine qG ((andI .u64 r47 r26) != r26) (Bool.eq_false_iff.2 hg49) ?_
          refine q1 (vb (decide (r50 < 0))) ?_
          refine step (v := vb (decide (r50 < 0))) (st_pickF (b := ((andI .u64 r47 r26) != r26)) rfl hg49 rfl) ?_
          refine q1 (vb (decide (r50 < 0))) ?_
          by_cases hg51 : decide (r50 < 0) = true
          ·
           replace hv := iteT hg51 hv
           refine qX (decide (r50 < 0)) (by rw [hg51]; decide) ?_
           refine qX (decide (r50 < 0)) (by rw [hg51]; decide) ?_
           refine qX (decide (r50 < 0)) (by rw [hg51]; decide) ?_
           refine qX (decide (r50 < 0)) (by rw [hg51]; decide) ?_
           refine qX (decide (r50 < 0)) (by rw [hg51]; decide) ?_
           refine qX (decide (r50 < 0)) (by rw [hg51]; decide) ?_
           refine qX (decide (r50 < 0)) (by rw [hg51]; decide) ?_
           refine step (v := vb true) (st_pickT (b := decide (r50 < 0)) rfl hg51 rfl) ?_
           have hh := Option.some.inj hv
           obtain ⟨he0, ht0⟩ := Prod.mk.inj hh
           obtain ⟨he1, ht1⟩ := Prod.mk.inj ht0
           obtain ⟨he2, ht2⟩ := Prod.mk.inj ht1
           obtain ⟨he3, ht3⟩ := Prod.mk.inj ht2
           obtain ⟨he4, ht4⟩ := Prod.mk.inj ht3
           obtain ⟨he5, ht5⟩ := Prod.mk.inj ht4
           subst he0
           subst he1
           subst he2
           subst he3
           subst he4
           subst he5
           subst ht5
           exact nR [0, 1, 2, 3]
          ·
           replace hv := iteF hg51 hv
           obtain ⟨r52, hr52, hv⟩ := bindE hv
           obtain ⟨r53, hr53, hv⟩ := bindE hv
           refine qG (decide (r50 < 0)) (Bool.eq_false_iff.2 hg51) ?_
           refine q1 (.ptr 1 0 0) ?_
           refine qG (decide (r50 < 0)) (Bool.eq_false_iff.2 hg51) ?_
           refine stepW (v := .loc 4 0 r52.1.length) (σ' := (upd (upd (upd (upd (upd (upd (upd (stab [(0, .var [vl1 r6.1.Events, vl0 r6.1.Sets, .d (eL none (eL none (D.int .u16)) r6.1.States)]), (1, .var [vl1 y39, vl0 y40, .d (eL none (eL none (D.int .u16)) y41), .d (.int .u64 y42), .loc 2 0 l43.length, .loc 3 0 l44.length]), (2, .lst true (some 2) (List.map ectrl_peer l43)), (3, .lst false none (List.map (D.int .i64) l44))]) 3 none) 2 none) 1 none) 4 (some (.lst true none (List.map (D.int .i64) r52.1)))) 3 (some (.lst false none (List.map (D.int .i64) r52.2.order)))) 2 (some (.lst true (some 2) (List.map ectrl_peer r52.2.peers)))) 1 (some (.var [vl1 r52.2.n_.Events, vl0 r52.2.n_.Sets, .d (eL none (eL none (D.int .u16)) r52.2.n_.States), .d (.int .u64 r52.2.known), .loc 2 0 r52.2.peers.length, .loc 3 0 r52.2.order.length])))) (n' := 5) (SCall.lift [1, 2, 3] (c_ctrl_Ctrl_Order hr52) (show 3 ≤ 4 by decide) (by decide) (show ∀ i ∈ [1, 2, 3], i < 4 by decide) (dom_c (show 0 < 4 by decide) (dom_c (show 1 < 4 by decide) (dom_c (show 2 < 4 by decide) (dom_c (show 3 < 4 by decide) dom_n)))) (VNs.c (.pt 0) VNs.nil0) (SN.c (show 0 < 3 by decide) rfl (.vars (VNs.c (.d _) (VNs.c (.d _) (VNs.c (.d _) (VNs.c (.d _) (VNs.c (.lc 1) (VNs.c (.lc 2) VNs.nil0))))))) (SN.c (show 1 < 3 by decide) rfl (.lst _ _ _) (SN.c (show 2 < 3 by decide) rfl (.lst _ _ _) SN.nil0)))) (show 4 ≤ 5 by decide) ?_
           refine qG (decide (r50 < 0)) (Bool.eq_false_iff.2 hg51) ?_
           refine q1 (vi (r52.1.length : Int)) ?_
           refine qG (decide (r50 < 0)) (Bool.eq_false_iff.2 hg51) ?_
           refine q1 (.d (.int .u64 y45)) ?_
           refine qG (decide (r50 < 0)) (Bool.eq_false_iff.2 hg51) ?_
           refine stepC (r := eL none (D.int .i64) r53) (ArgsOk.dt ArgsOk.nil') (c_ref02_List hr53) ?_
           refine qG (decide (r50 < 0)) (Bool.eq_false_iff.2 hg51) ?_
           refine step (v := vi (r53.length : Int)) (st_len (xs := r53) (e := (D.int .i64)) rfl) ?_
           refine qG (decide (r50 < 0)) (Bool.eq_false_iff.2 hg51) ?_
           refine q1 (vb ((r52.1.length : Int) != (r53.length : Int))) ?_
           refine step (v := vb ((r52.1.length : Int) != (r53.length : Int))) (st_pickF (b := decide (r50 < 0)) rfl hg51 rfl) ?_
           have hh := Option.some.inj hv
           obtain ⟨he0, ht0⟩ := Prod.mk.inj hh
           obtain ⟨he1, ht1⟩ := Prod.mk.inj ht0
           obtain ⟨he2, ht2⟩ := Prod.mk.inj ht1
           obtain ⟨he3, ht3⟩ := Prod.mk.inj ht2
           obtain ⟨he4, ht4⟩ := Prod.mk.inj ht3
           obtain ⟨he5, ht5⟩ := Prod.mk.inj ht4
           subst he0
           subst he1
           subst he2
           subst he3
           subst he4
           subst he5
           subst ht5
           exact nR [0, 1, 2, 3]
       by_cases hc62 : y60 = true
       ·
        replace h := iteT hc62 h
        refine NWp.condT (t := y60) rfl hc62 ?_
        refine NWp.opsJ ⟨tab [(4, vb false)], stab [], 0⟩ ?_ ?_
        ·
         refine q1 (vb false) ?_
         exact nR []
        obtain ⟨r63, kr63, hr⟩ := mapE (o := some (Br.ret false)) (g := Sum.inr) h
        subst hr
        have h := kr63
        obtain ⟨r64, kr64, hr⟩ := mapE (o := some false) (g := Br.ret) h
        subst hr
        have h := kr64
        have hh := Option.some.inj h
        subst hh
        refine NWp.ret ?_
        refine And.intro (fun hn => nomatch hn) ?_
        intro hq
        have hq := hq.symm
        subst hq
        refine And.intro (fun hn => nomatch hn) ?_
        intro hq
        have hq := hq.symm
        subst hq
        show FQ _ _ _ _
        exact FQ.mk1 (.inr rfl) (res_t (v := vb false) rfl rfl) (RV.d trivial)
       ·
        replace h := iteF hc62 h
        refine NWp.condF (t := y60) rfl hc62 ?_
        refine NWp.skip ?_
        obtain ⟨r63, hr63, h⟩ := bindE h
        refine NWp.opsJ ⟨tab [(5, .ptr 0 0 0), (7, .ptr 1 0 0), (8, .d (.int .u64 y45)), (41, vl5 a1), (42, vi (a1.length : Int)), (43, vi i16), (133, .loc 4 0 r63.1.length), (134, vi (r63.1.length : Int)), (135, vi 0)], stab [(0, .var [vl1 r6.1.Events, vl0 r6.1.Sets, .d (eL none (eL none (D.int .u16)) r6.1.States)]), (1, .var [vl1 r63.2.n_.Events, vl0 r63.2.n_.Sets, .d (eL none (eL none (D.int .u16)) r63.2.n_.States), .d (.int .u64 r63.2.known), .loc 2 0 r63.2.peers.length, .loc 3 0 r63.2.order.length]), (2, .lst true (some 2) (List.map ectrl_peer r63.2.peers)), (3, .lst false none (List.map (D.int .i64) r63.2.order)), (4, .lst true none (List.map (D.int .i64) r63.1))], 5⟩ ?_ ?_
        ·
         refine q1 (.ptr 1 0 0) ?_
         refine stepW (v := .loc 4 0 r63.1.length) (σ' := (upd (upd (upd (upd (upd (upd (upd (stab [(0, .var [vl1 r6.1.Events, vl0 r6.1.Sets, .d (eL none (eL none (D.int .u16)) r6.1.States)]), (1, .var [vl1 y54, vl0 y55, .d (eL none (eL none (D.int .u16)) y56), .d (.int .u64 y57), .loc 2 0 l58.length, .loc 3 0 l59.length]), (2, .lst true (some 2) (List.map ectrl_peer l58)), (3, .lst false none (List.map (D.int .i64) l59))]) 3 none) 2 none) 1 none) 4 (some (.lst true none (List.map (D.int .i64) r63.1)))) 3 (some (.lst false none (List.map (D.int .i64) r63.2.order)))) 2 (some (.lst true (some 2) (List.map ectrl_peer r63.2.peers)))) 1 (some (.var [vl1 r63.2.n_.Events, vl0 r63.2.n_.Sets, .d (eL none (eL none (D.int .u16)) r63.2.n_.States), .d (.int .u64 r63.2.known), .loc 2 0 r63.2.peers.length, .loc 3 0 r63.2.order.length])))) (n' := 5) (SCall.lift [1, 2, 3] (c_ctrl_Ctrl_Order hr63) (show 3 ≤ 4 by decide) (by decide) (show ∀ i ∈ [1, 2, 3], i < 4 by decide) (dom_c (show 0 < 4 by decide) (dom_c (show 1 < 4 by decide) (dom_c (show 2 < 4 by decide) (dom_c (show 3 < 4 by decide) dom_n)))) (VNs.c (.pt 0) VNs.nil0) (SN.c (show 0 < 3 by decide) rfl (.vars (VNs.c (.d _) (VNs.c (.d _) (VNs.c (.d _) (VNs.c (.d _) (VNs.c (.lc 1) (VNs.c (.lc 2) VNs.nil0))))))) (SN.c (show 1 < 3 by decide) rfl (.lst _ _ _) (SN.c (show 2 < 3 by decide) rfl (.lst _ _ _) SN.nil0)))) (show 4 ≤ 5 by decide) ?_
         refine q1 (vi (r63.1.length : Int)) ?_
         refine q1 (vi 0) ?_
         exact nR [0, 1, 2, 3, 4]
        obtain ⟨q73, hl, h⟩ := bindE h
        refine NWp.block ?_
        refine loop_forR (cntU (r63.1.length : Int)) (fun (i64 : Int) (qq : Unit) => ⟨tab [(5, .ptr 0 0 0), (7, .ptr 1 0 0), (8, .d (.int .u64 y45)), (41, vl5 a1), (42, vi (a1.length : Int)), (43, vi i16), (133, .loc 4 0 r63.1.length), (134, vi (r63.1.length : Int)), (135, vi i64)], stab [(0, .var [vl1 r6.1.Events, vl0 r6.1.Sets, .d (eL none (eL none (D.int .u16)) r6.1.States)]), (1, .var [vl1 r63.2.n_.Events, vl0 r63.2.n_.Sets, .d (eL none (eL none (D.int .u16)) r63.2.n_.States), .d (.int .u64 r63.2.known), .loc 2 0 r63.2.peers.length, .loc 3 0 r63.2.order.length]), (2, .lst true (some 2) (List.map ectrl_peer r63.2.peers)), (3, .lst false none (List.map (D.int .i64) r63.2.order)), (4, .lst true none (List.map (D.int .i64) r63.1))], 5⟩) 2 (fun (qq : Unit) => ⟨tab [(5, .ptr 0 0 0), (7, .ptr 1 0 0), (8, .d (.int .u64 y45)), (41, vl5 a1), (42, vi (a1.length : Int)), (43, vi i16)], stab [(0, .var [vl1 r6.1.Events, vl0 r6.1.Sets, .d (eL none (eL none (D.int .u16)) r6.1.States)]), (1, .var [vl1 r63.2.n_.Events, vl0 r63.2.n_.Sets, .d (eL none (eL none (D.int .u16)) r63.2.n_.States), .d (.int .u64 r63.2.known), .loc 2 0 r63.2.peers.length, .loc 3 0 r63.2.order.length]), (2, .lst true (some 2) (List.map ectrl_peer r63.2.peers)), (3, .lst false none (List.map (D.int .i64) r63.2.order))], 4⟩) Low low_step (r := q81) hl (by unfold Low; omega) ?_ ?_ ?_ ?_
        ·
         rintro i64 ⟨⟩ xr69 hinv67 hgo66 h
         show NWp _ _ _ _ _ ⟨tab [(5, .ptr 0 0 0), (7, .ptr 1 0 0), (8, .d (.int .u64 y45)), (41, vl5 a1), (42, vi (a1.length : Int)), (43, vi i16), (133, .loc 4 0 r63.1.length), (134, vi (r63.1.length : Int)), (135, vi i64)], stab [(0, .var [vl1 r6.1.Events, vl0 r6.1.Sets, .d (eL none (eL none (D.int .u16)) r6.1.States)]), (1, .var [vl1 r63.2.n_.Events, vl0 r63.2.n_.Sets, .d (eL none (eL none (D.int .u16)) r63.2.n_.States), .d (.int .u64 r63.2.known), .loc 2 0 r63.2.peers.length, .loc 3 0 r63.2.order.length]), (2, .lst true (some 2) (List.map ectrl_peer r63.2.peers)), (3, .lst false none (List.map (D.int .i64) r63.2.order)), (4, .lst true none (List.map (D.int .i64) r63.1))], 5⟩
         have hc68 : decide (i64 < (r63.1.length : Int)) = true := decide_eq_true hgo66
         refine NWp.opsJ ⟨tab [(5, .ptr 0 0 0), (7, .ptr 1 0 0), (8, .d (.int .u64 y45)), (41, vl5 a1), (42, vi (a1.length : Int)), (43, vi i16), (133, .loc 4 0 r63.1.length), (134, vi (r63.1.length : Int)), (135, vi i64), (136, vb (decide (i64 < (r63.1.length : Int))))], stab [(0, .var [vl1 r6.1.Events, vl0 r6.1.Sets, .d (eL none (eL none (D.int .u16)) r6.1.States)]), (1, .var [vl1 r63.2.n_.Events, vl0 r63.2.n_.Sets, .d (eL none (eL none (D.int .u16)) r63.2.n_.States), .d (.int .u64 r63.2.known), .loc 2 0 r63.2.peers.length, .loc 3 0 r63.2.order.length]), (2, .lst true (some 2) (List.map ectrl_peer r63.2.peers)), (3, .lst false none (List.map (D.int .i64) r63.2.order)), (4, .lst true none (List.map (D.int .i64) r63.1))], 5⟩ ?_ ?_
         ·
          refine q1 (vb (decide (i64 < (r63.1.length : Int)))) ?_
          exact nR [0, 1, 2, 3, 4]
         refine NWp.rng 134 rfl fun hB65 => ?_
         refine NWp.seq ?_
         refine NWp.condT (t := decide (i64 < (r63.1.length : Int))) rfl hc68 ?_
         refine NWp.skip ?_
         refine NWp.seq ?_
         refine NWp.block ?_
         obtain ⟨x70, hx70, h⟩ := bindE h
         refine NWp.opsJ ⟨tab [(5, .ptr 0 0 0), (7, .ptr 1 0 0), (8, .d (.int .u64 y45)), (19, vi x70), (41, vl5 a1), (42, vi (a1.length : Int)), (43, vi i16), (133, .loc 4 0 r63.1.length), (134, vi (r63.1.length : Int)), (135, vi i64)], stab [(0, .var [vl1 r6.1.Events, vl0 r6.1.Sets, .d (eL none (eL none (D.int .u16)) r6.1.States)]), (1, .var [vl1 r63.2.n_.Events, vl0 r63.2.n_.Sets, .d (eL none (eL none (D.int .u16)) r63.2.n_.States), .d (.int .u64 r63.2.known), .loc 2 0 r63.2.peers.length, .loc 3 0 r63.2.order.length]), (2, .lst true (some 2) (List.map ectrl_peer r63.2.peers)), (3, .lst false none (List.map (D.int .i64) r63.2.order)), (4, .lst true none (List.map (D.int .i64) r63.1))], 5⟩ ?_ ?_
         ·
          refine step (v := .ptr 4 i64.toNat 0) (st_iaddrL (xs := r63.1) (e := (D.int .i64)) hx70 rfl rfl rfl rfl) ?_
          refine step (v := vi x70) (st_loadL (xs := r63.1) (e := (D.int .i64)) hx70 rfl rfl rfl) ?_
          refine q1 (vi x70) ?_
          exact nR [0, 1, 2, 3, 4]
         obtain ⟨r71, hr71, h⟩ := bindE h
         refine NWp.opsJ ⟨tab [(5, .ptr 0 0 0), (7, .ptr 1 0 0), (8, .d (.int .u64 y45)), (41, vl5 a1), (42, vi (a1.length : Int)), (43, vi i16), (133, .loc 4 0 r63.1.length), (134, vi (r63.1.length : Int)), (135, vi i64), (142, vb (!r71))], stab [(0, .var [vl1 r6.1.Events, vl0 r6.1.Sets, .d (eL none (eL none (D.int .u16)) r6.1.States)]), (1, .var [vl1 r63.2.n_.Events, vl0 r63.2.n_.Sets, .d (eL none (eL none (D.int .u16)) r63.2.n_.States), .d (.int .u64 r63.2.known), .loc 2 0 r63.2.peers.length, .loc 3 0 r63.2.order.length]), (2, .lst true (some 2) (List.map ectrl_peer r63.2.peers)), (3, .lst false none (List.map (D.int .i64) r63.2.order)), (4, .lst true none (List.map (D.int .i64) r63.1))], 5⟩ ?_ ?_
         ·
          refine q1 (.d (.int .u64 y45)) ?_
          refine q1 (vi x70) ?_
          refine stepC (r := .bool r71) (ArgsOk.dt (ArgsOk.dt ArgsOk.nil')) (c_ref02_Has hr71) ?_
          refine q1 (vb (!r71)) ?_
          exact nR [0, 1, 2, 3, 4]
         by_cases hc72 : (!r71) = true
         ·
          replace h := iteT hc72 h
          refine NWp.condT (t := (!r71)) rfl hc72 ?_
          refine NWp.opsJ ⟨tab [(4, vb false)], stab [], 0⟩ ?_ ?_
          ·
           refine q1 (vb false) ?_
           exact nR []
          obtain ⟨r73, kr73, hr⟩ := mapE (o := some (Sum.inr (Br.ret false))) (g := Br.ret) h
          subst hr
          have h := kr73
          obtain ⟨r74, kr74, hr⟩ := mapE (o := some (Br.ret false)) (g := Sum.inr) h
          subst hr
          have h := kr74
          obtain ⟨r75, kr75, hr⟩ := mapE (o := some false) (g := Br.ret) h
          subst hr
          have h := kr75
          have hh := Option.some.inj h
          subst hh
          refine NWp.ret ?_
          refine And.intro (fun hn => nomatch hn) ?_
          intro hq
          have hq := hq.symm
          subst hq
          refine And.intro (fun hn => nomatch hn) ?_
          intro hq
          have hq := hq.symm
          subst hq
          refine And.intro (fun hn => nomatch hn) ?_
          intro hq
          have hq := hq.symm
          subst hq
          show FQ _ _ _ _
          exact FQ.mk1 (.inr rfl) (res_t (v := vb false) rfl rfl) (RV.d trivial)
         ·
          replace h := iteF hc72 h
          refine NWp.condF (t := (!r71)) rfl hc72 ?_
          refine NWp.skip ?_
          have hh := Option.some.inj h
          subst hh
          refine NWp.opsE ⟨tab [(5, .ptr 0 0 0), (7, .ptr 1 0 0), (8, .d (.int .u64 y45)), (41, vl5 a1), (42, vi (a1.length : Int)), (43, vi i16), (133, .loc 4 0 r63.1.length), (134, vi (r63.1.length : Int)), (135, vi (i64 + 1))], stab [(0, .var [vl1 r6.1.Events, vl0 r6.1.Sets, .d (eL none (eL none (D.int .u16)) r6.1.States)]), (1, .var [vl1 r63.2.n_.Events, vl0 r63.2.n_.Sets, .d (eL none (eL none (D.int .u16)) r63.2.n_.States), .d (.int .u64 r63.2.known), .loc 2 0 r63.2.peers.length, .loc 3 0 r63.2.order.length]), (2, .lst true (some 2) (List.map ectrl_peer r63.2.peers)), (3, .lst false none (List.map (D.int .i64) r63.2.order)), (4, .lst true none (List.map (D.int .i64) r63.1))], 5⟩ ?_ ?_
          ·
           refine step (v := vi (i64 + 1)) (st_inc (inc_ok hinv67 hgo66 hB65) rfl rfl) ?_
           refine q1 (vi (i64 + 1)) ?_
           exact nR [0, 1, 2, 3, 4]
          exact And.intro rfl rfl
        ·
         rintro i64 ⟨⟩ hinv67 hgo66
         show NWp _ _ _ _ _ ⟨tab [(5, .ptr 0 0 0), (7, .ptr 1 0 0), (8, .d (.int .u64 y45)), (41, vl5 a1), (42, vi (a1.length : Int)), (43, vi i16), (133, .loc 4 0 r63.1.length), (134, vi (r63.1.length : Int)), (135, vi i64)], stab [(0, .var [vl1 r6.1.Events, vl0 r6.1.Sets, .d (eL none (eL none (D.int .u16)) r6.1.States)]), (1, .var [vl1 r63.2.n_.Events, vl0 r63.2.n_.Sets, .d (eL none (eL none (D.int .u16)) r63.2.n_.States), .d (.int .u64 r63.2.known), .loc 2 0 r63.2.peers.length, .loc 3 0 r63.2.order.length]), (2, .lst true (some 2) (List.map ectrl_peer r63.2.peers)), (3, .lst false none (List.map (D.int .i64) r63.2.order)), (4, .lst true none (List.map (D.int .i64) r63.1))], 5⟩
         have hc68 : ¬ (decide (i64 < (r63.1.length : Int)) = true) := fun hq => hgo66 (of_decide_eq_true hq)
         refine NWp.opsJ ⟨tab [(5, .ptr 0 0 0), (7, .ptr 1 0 0), (8, .d (.int .u64 y45)), (41, vl5 a1), (42, vi (a1.length : Int)), (43, vi i16), (133, .loc 4 0 r63.1.length), (134, vi (r63.1.length : Int)), (135, vi i64), (136, vb (decide (i64 < (r63.1.length : Int))))], stab [(0, .var [vl1 r6.1.Events, vl0 r6.1.Sets, .d (eL none (eL none (D.int .u16)) r6.1.States)]), (1, .var [vl1 r63.2.n_.Events, vl0 r63.2.n_.Sets, .d (eL none (eL none (D.int .u16)) r63.2.n_.States), .d (.int .u64 r63.2.known), .loc 2 0 r63.2.peers.length, .loc 3 0 r63.2.order.length]), (2, .lst true (some 2) (List.map ectrl_peer r63.2.peers)), (3, .lst false none (List.map (D.int .i64) r63.2.order)), (4, .lst true none (List.map (D.int .i64) r63.1))], 5⟩ ?_ ?_
         ·
          refine q1 (vb (decide (i64 < (r63.1.length : Int)))) ?_
          exact nR [0, 1, 2, 3, 4]
         refine NWp.seq ?_
         refine NWp.condF (t := decide (i64 < (r63.1.length : Int))) rfl hc68 ?_
         refine NWp.norm (s0 := ⟨tab [(5, .ptr 0 0 0), (7, .ptr 1 0 0), (8, .d (.int .u64 y45)), (41, vl5 a1), (42, vi (a1.length : Int)), (43, vi i16)], stab [(0, .var [vl1 r6.1.Events, vl0 r6.1.Sets, .d (eL none (eL none (D.int .u16)) r6.1.States)]), (1, .var [vl1 r63.2.n_.Events, vl0 r63.2.n_.Sets, .d (eL none (eL none (D.int .u16)) r63.2.n_.States), .d (.int .u64 r63.2.known), .loc 2 0 r63.2.peers.length, .loc 3 0 r63.2.order.length]), (2, .lst true (some 2) (List.map ectrl_peer r63.2.peers)), (3, .lst false none (List.map (D.int .i64) r63.2.order))], 4⟩) (nr [0, 1, 2, 3]) ?_
         refine NWp.exit ?_
         exact And.intro rfl rfl
        ·
         intro r' hq
         subst hq
         exact Option.some.inj h
        rintro ⟨⟩ rfl
        have hh := Option.some.inj h
        subst hh
        exact And.intro rfl rfl
     ·
      intro r' hq
      subst hq
      exact Option.some.inj h
     rintro ⟨y74, y75, y76, y77, l78, l79, y80⟩ rfl
     show NWp _ _ _ _ _ ⟨tab [(5, .ptr 0 0 0), (7, .ptr 1 0 0), (8, .d (.int .u64 y80)), (41, vl5 a1), (42, vi (a1.length : Int)), (43, vi i16)], stab [(0, .var [vl1 r6.1.Events, vl0 r6.1.Sets, .d (eL none (eL none (D.int .u16)) r6.1.States)]), (1, .var [vl1 y74, vl0 y75, .d (eL none (eL none (D.int .u16)) y76), .d (.int .u64 y77), .loc 2 0 l78.length, .loc 3 0 l79.length]), (2, .lst true (some 2) (List.map ectrl_peer l78)), (3, .lst false none (List.map (D.int .i64) l79))], 4⟩
     have hh := Option.some.inj h
     subst hh
     refine NWp.opsE ⟨tab [(5, .ptr 0 0 0), (7, .ptr 1 0 0), (8, .d (.int .u64 y80)), (41, vl5 a1), (42, vi (a1.length : Int)), (43, vi (i16 + 1))], stab [(0, .var [vl1 r6.1.Events, vl0 r6.1.Sets, .d (eL none (eL none (D.int .u16)) r6.1.States)]), (1, .var [vl1 y74, vl0 y75, .d (eL none (eL none (D.int .u16)) y76), .d (.int .u64 y77), .loc 2 0 l78.length, .loc 3 0 l79.length]), (2, .lst true (some 2) (List.map ectrl_peer l78)), (3, .lst false none (List.map (D.int .i64) l79))], 4⟩ ?_ ?_
     ·
      refine step (v := vi (i16 + 1)) (st_inc (inc_ok hinv19 hgo18 hB17) rfl rfl) ?_
      refine q1 (vi (i16 + 1)) ?_
      exact nR [0, 1, 2, 3]
     exact And.intro rfl rfl
    ·
     rintro i16 ⟨y9, y10, y11, i12, l13, l14, i15⟩ hinv19 hgo18
     show NWp _ _ _ _ _ ⟨tab [(5, .ptr 0 0 0), (7, .ptr 1 0 0), (8, .d (.int .u64 i15)), (41, vl5 a1), (42, vi (a1.length : Int)), (43, vi i16)], stab [(0, .var [vl1 r6.1.Events, vl0 r6.1.Sets, .d (eL none (eL none (D.int .u16)) r6.1.States)]), (1, .var [vl1 y9, vl0 y10, .d (eL none (eL none (D.int .u16)) y11), .d (.int .u64 i12), .loc 2 0 l13.length, .loc 3 0 l14.length]), (2, .lst true (some 2) (List.map ectrl_peer l13)), (3, .lst false none (List.map (D.int .i64) l14))], 4⟩
     have hc20 : ¬ (decide (i16 < (a1.length : Int)) = true) := fun hq => hgo18 (of_decide_eq_true hq)
     refine NWp.opsJ ⟨tab [(5, .ptr 0 0 0), (7, .ptr 1 0 0), (8, .d (.int .u64 i15)), (41, vl5 a1), (42, vi (a1.length : Int)), (43, vi i16), (44, vb (decide (i16 < (a1.length : Int))))], stab [(0, .var [vl1 r6.1.Events, vl0 r6.1.Sets, .d (eL none (eL none (D.int .u16)) r6.1.States)]), (1, .var [vl1 y9, vl0 y10, .d (eL none (eL none (D.int .u16)) y11), .d (.int .u64 i12), .loc 2 0 l13.length, .loc 3 0 l14.length]), (2, .lst true (some 2) (List.map ectrl_peer l13)), (3, .lst false none (List.map (D.int .i64) l14))], 4⟩ ?_ ?_
     ·
      refine q1 (vb (decide (i16 < (a1.length : Int)))) ?_
      exact nR [0, 1, 2, 3]
     refine NWp.seq ?_
     refine NWp.condF (t := decide (i16 < (a1.length : Int))) rfl hc20 ?_
     refine NWp.norm (s0 := ⟨tab [], stab [], 0⟩) (nr []) ?_
     refine NWp.exit ?_
     exact And.intro rfl rfl
    ·
     intro r' hq
     subst hq
     exact Option.some.inj h
    rintro ⟨z82, z83, z84, z85, z86, z87, z88⟩ rfl
    refine NWp.opsJ ⟨tab [(4, vb true)], stab [], 0⟩ ?_ ?_
    ·
     refine q1 (vb true) ?_
     exact nR []
    have hh := Option.some.inj h
    subst hh
    refine NWp.ret ?_
    show FQ _ _ _ _
    exact FQ.mk1 (.inr rfl) (res_t (v := vb true) rfl rfl) (RV.d trivial)


end Go.AM
