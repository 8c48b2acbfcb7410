import Derived.Test.YtjdaaclkihjjnaaDoorCsW1
/-  What they are in the program: walks. -/
set_option linter.unusedVariables false
set_option linter.unusedSimpArgs false
namespace Go.AM
open Go Go.RowKit Go.Proofs

attribute [local irreducible] RunOps RunOpsL

theorem c_ref02_With {a0 : Int} {a1 : Int} {r : Int} (h : ref02_With a0 a1 = some r) : PCall Tryd.prog 41 [.int .u64 a0, .int .i64 a1] (.int .u64 r) := by
 refine PCall.introN ok41 (show 2 ≤ 21 by decide) ?_
 refine NWp.norm (s0 := ⟨tab [(0, .d (.int .u64 a0)), (1, vi a1)], stab [], 0⟩) (nr []) ?_
 refine NWp.opsJ ⟨tab [(0, .d (.int .u64 a0)), (1, vi a1)], stab [], 0⟩ ?_ ?_
 ·
  refine q1 _ ?_
  exact nR []
 refine NWp.seq ?_
 obtain ⟨y4, hv, h⟩ := bindE h
 refine NWp.opsJ ⟨tab [(0, .d (.int .u64 a0)), (1, vi a1), (15, vb y4)], stab [], 0⟩ ?_ ?_
 ·
  iterate 3 refine q1 _ ?_
  by_cases hg1 : decide (a1 < 0) = true
  ·
   replace hv := iteT hg1 hv
   iterate 2 refine qX (decide (a1 < 0)) (by rw [hg1]; decide) ?_
   refine step (v := vb true) (st_pickT (b := decide (a1 < 0)) rfl hg1 rfl) ?_
   refine q1 _ ?_
   iterate 3 refine qX true (by decide) ?_
   refine step (v := vb true) (st_pickT (b := true) rfl rfl rfl) ?_
   have hh := Option.some.inj hv
   subst hh
   exact nR []
  ·
   replace hv := iteF hg1 hv
   refine qG (decide (a1 < 0)) (Bool.eq_false_iff.2 hg1) ?_
   refine q1 _ ?_
   refine qG (decide (a1 < 0)) (Bool.eq_false_iff.2 hg1) ?_
   refine q1 _ ?_
   refine step (v := vb (decide (a1 > 63))) (st_pickF (b := decide (a1 < 0)) rfl hg1 rfl) ?_
   refine q1 _ ?_
   by_cases hg2 : decide (a1 > 63) = true
   ·
    replace hv := iteT hg2 hv
    iterate 3 refine qX (decide (a1 > 63)) (by rw [hg2]; decide) ?_
    refine step (v := vb true) (st_pickT (b := decide (a1 > 63)) rfl hg2 rfl) ?_
    have hh := Option.some.inj hv
    subst hh
    exact nR []
   ·
    replace hv := iteF hg2 hv
    obtain ⟨r3, hr3, hv⟩ := bindE hv
    refine qG (decide (a1 > 63)) (Bool.eq_false_iff.2 hg2) ?_
    refine q1 _ ?_
    refine qG (decide (a1 > 63)) (Bool.eq_false_iff.2 hg2) ?_
    refine q1 _ ?_
    refine qG (decide (a1 > 63)) (Bool.eq_false_iff.2 hg2) ?_
    refine stepC (r := .bool r3) (ArgsOk.dt (ArgsOk.dt ArgsOk.nil')) (c_ref02_Has hr3) ?_
    refine step (v := vb r3) (st_pickF (b := decide (a1 > 63)) rfl hg2 rfl) ?_
    have hh := Option.some.inj hv
    subst hh
    exact nR []
 by_cases hc6 : y4 = true
 ·
  replace h := iteT hc6 h
  refine NWp.condT (t := y4) rfl hc6 ?_
  refine NWp.opsJ ⟨tab [(4, .d (.int .u64 a0))], stab [], 0⟩ ?_ ?_
  ·
   iterate 2 refine q1 _ ?_
   exact nR []
  have hh := Option.some.inj h
  subst hh
  refine NWp.ret ?_
  show FQ _ _ _ _
  exact FQ.mk1 (.inr rfl) (res_t (v := .d (.int .u64 a0)) rfl rfl) (RV.d trivial)
 ·
  replace h := iteF hc6 h
  refine NWp.condF (t := y4) rfl hc6 ?_
  refine NWp.skip ?_
  obtain ⟨r7, hr7, h⟩ := bindE h
  refine NWp.opsJ ⟨tab [(4, .d (.int .u64 (IntKind.u64.wrap (a0 + r7))))], stab [], 0⟩ ?_ ?_
  ·
   iterate 2 refine q1 _ ?_
   refine stepC (r := .int .u64 r7) (ArgsOk.dt ArgsOk.nil') (c_ref02_pow hr7) ?_
   iterate 2 refine q1 _ ?_
   exact nR []
  have hh := Option.some.inj h
  subst hh
  refine NWp.ret ?_
  show FQ _ _ _ _
  exact FQ.mk1 (.inr rfl) (res_t (v := .d (.int .u64 (IntKind.u64.wrap (a0 + r7)))) rfl rfl) (RV.d trivial)

theorem c_ref12_Tag {a0 : api_Nes} {a1 : Int} {r : Int} (h : ref12_Tag a0 a1 = some r) : PCall Tryd.prog 17 [eapi_Nes a0, .int .u64 a1] (.int .i64 r) := by
 refine PCall.introN ok17 (show 2 ≤ 21 by decide) ?_
 refine NWp.norm (s0 := ⟨tab [(0, vs1 a0), (1, .d (.int .u64 a1))], stab [], 0⟩) (nr []) ?_
 refine NWp.opsJ ⟨tab [(1, .d (.int .u64 a1)), (2, vp0 a0)], stab [], 0⟩ ?_ ?_
 ·
  iterate 2 refine q1 _ ?_
  exact nR []
 refine NWp.seq ?_
 refine NWp.opsJ ⟨tab [(1, .d (.int .u64 a1)), (2, vp0 a0), (5, vi 0)], stab [], 0⟩ ?_ ?_
 ·
  refine q1 _ ?_
  exact nR []
 obtain ⟨q9, hl, h⟩ := bindE h
 refine NWp.block ?_
 refine loop_forR (cntU (a0.Sets.length : Int)) (fun (i1 : Int) (qq : Unit) => ⟨tab [(1, .d (.int .u64 a1)), (2, vp0 a0), (5, vi i1)], stab [], 0⟩) 0 (fun (qq : Unit) => ⟨tab [], stab [], 0⟩) Low low_step (r := r) hl (by unfold Low; omega) ?_ ?_ ?_ ?_
 ·
  rintro i1 ⟨⟩ xr6 hinv4 hgo3 h
  show NWp _ _ _ _ _ ⟨tab [(1, .d (.int .u64 a1)), (2, vp0 a0), (5, vi i1)], stab [], 0⟩
  have hc5 : decide (i1 < (a0.Sets.length : Int)) = true := decide_eq_true hgo3
  refine NWp.seq ?_
  refine NWp.opsJ ⟨tab [(1, .d (.int .u64 a1)), (2, vp0 a0), (5, vi i1), (9, vi (a0.Sets.length : Int)), (10, vb (decide (i1 < (a0.Sets.length : Int))))], stab [], 0⟩ ?_ ?_
  ·
   iterate 3 refine q1 _ ?_
   refine step (v := vi (a0.Sets.length : Int)) (st_len (xs := a0.Sets) (e := (D.int .u64)) rfl) ?_
   refine q1 _ ?_
   exact nR []
  refine NWp.rng 9 rfl fun hB2 => ?_
  refine NWp.condT (t := decide (i1 < (a0.Sets.length : Int))) rfl hc5 ?_
  refine NWp.skip ?_
  refine NWp.seq ?_
  refine NWp.block ?_
  obtain ⟨x7, hx7, h⟩ := bindE h
  refine NWp.opsJ ⟨tab [(1, .d (.int .u64 a1)), (2, vp0 a0), (5, vi i1), (19, vb (x7 == a1))], stab [], 0⟩ ?_ ?_
  ·
   iterate 3 refine q1 _ ?_
   refine step (v := .d (.cptr none (.int .u64 x7) 0)) (st_iaddr (xs := a0.Sets) (e := (D.int .u64)) hx7 rfl rfl) ?_
   iterate 3 refine q1 _ ?_
   exact nR []
  by_cases hc8 : (x7 == a1) = true
  ·
   replace h := iteT hc8 h
   refine NWp.condT (t := (x7 == a1)) rfl hc8 ?_
   refine NWp.opsJ ⟨tab [(4, vi i1)], stab [], 0⟩ ?_ ?_
   ·
    iterate 2 refine q1 _ ?_
    exact nR []
   obtain ⟨r9, kr9, hr⟩ := mapE (o := some i1) (g := Br.ret) h
   subst hr
   have h := kr9
   have hh := Option.some.inj h
   subst hh
   refine NWp.ret ?_
   refine And.intro (fun hn => nomatch hn) ?_
   intro hq
   have hq := hq.symm
   subst hq
   show FQ _ _ _ _
   exact FQ.mk1 (.inr rfl) (res_t (v := vi i1) rfl rfl) (RV.d trivial)
  ·
   replace h := iteF hc8 h
   refine NWp.condF (t := (x7 == a1)) rfl hc8 ?_
   refine NWp.skip ?_
   have hh := Option.some.inj h
   subst hh
   refine NWp.opsE ⟨tab [(1, .d (.int .u64 a1)), (2, vp0 a0), (5, vi (i1 + 1))], stab [], 0⟩ ?_ ?_
   ·
    refine q1 _ ?_
    refine step (v := vi (i1 + 1)) (st_inc (inc_ok hinv4 hgo3 hB2) rfl rfl) ?_
    refine q1 _ ?_
    exact nR []
   exact And.intro rfl rfl
 ·
  rintro i1 ⟨⟩ hinv4 hgo3
  show NWp _ _ _ _ _ ⟨tab [(1, .d (.int .u64 a1)), (2, vp0 a0), (5, vi i1)], stab [], 0⟩
  have hc5 : ¬ (decide (i1 < (a0.Sets.length : Int)) = true) := fun hq => hgo3 (of_decide_eq_true hq)
  refine NWp.seq ?_
  refine NWp.opsJ ⟨tab [(1, .d (.int .u64 a1)), (2, vp0 a0), (5, vi i1), (10, vb (decide (i1 < (a0.Sets.length : Int))))], stab [], 0⟩ ?_ ?_
  ·
   iterate 3 refine q1 _ ?_
   refine step (v := vi (a0.Sets.length : Int)) (st_len (xs := a0.Sets) (e := (D.int .u64)) rfl) ?_
   refine q1 _ ?_
   exact nR []
  refine NWp.condF (t := decide (i1 < (a0.Sets.length : Int))) rfl hc5 ?_
  refine NWp.norm (s0 := ⟨tab [], stab [], 0⟩) (nr []) ?_
  refine NWp.exit ?_
  exact And.intro rfl rfl
 ·
  intro r' hq
  subst hq
  exact Option.some.inj h
 rintro ⟨⟩ rfl
 refine NWp.opsJ ⟨tab [(4, vi (-1))], stab [], 0⟩ ?_ ?_
 ·
  refine q1 _ ?_
  exact nR []
 have hh := Option.some.inj h
 subst hh
 refine NWp.ret ?_
 show FQ _ _ _ _
 exact FQ.mk1 (.inr rfl) (res_t (v := vi (-1)) rfl rfl) (RV.d trivial)

theorem c_ref12_sets {a0 : api_Program} {a1 : api_Space} {r : (api_Nes × Int)} (h : ref12_sets a0 a1 = some r) : PCall Tryd.prog 23 [eapi_Program a0, eapi_Space a1] (.tup [eapi_Nes r.1, .int .i64 r.2]) := by
 refine PCall.introN ok23 (show 2 ≤ 132 by decide) ?_
 refine NWp.norm (s0 := ⟨tab [(0, vs2 a0), (1, vs4 a1)], stab [], 0⟩) (nr []) ?_
 refine NWp.opsJ ⟨tab [(3, vp1 a1), (4, .ptr 0 0 0)], stab [(0, .var [vl1 [], vl0 [], .d (eL none (eL none (D.int .u16)) [])])], 1⟩ ?_ ?_
 ·
  iterate 2 refine q1 _ ?_
  refine step (v := .ptr 0 0 0) (σ' := (upd (stab []) 0 (some (.var [vl1 [], vl0 [], .d (eL none (eL none (D.int .u16)) [])])))) (n' := 1) rfl ?_
  refine q1 _ ?_
  exact nR [0]
 obtain ⟨x1, hx1, h⟩ := bindE h
 refine NWp.opsJ ⟨tab [(3, vp1 a1), (4, .ptr 0 0 0), (6, .ptr 1 0 0)], stab [(0, .var [vl1 [], vl0 [], .d (eL none (eL none (D.int .u16)) [])]), (1, .var [.d (.nils), .loc 2 0 (([0] : List Int).length), .loc 3 0 (([x1] : List (List Int)).length)]), (2, .lst false none (List.map (D.int .u64) ([0] : List Int))), (3, .lst false none (List.map (eL none (D.int .u16)) ([x1] : List (List Int))))], 4⟩ ?_ ?_
 ·
  refine step (v := .loc 1 0 (([0] : List Int).length)) (σ' := (upd (stab [(0, .var [vl1 [], vl0 [], .d (eL none (eL none (D.int .u16)) [])])]) 1 (some (.lst false none (List.map (D.int .u64) ([0] : List Int)))))) (n' := 2) rfl ?_
  iterate 2 refine q1 _ ?_
  refine step (v := .d (.cptr none (eL none (D.int .u16) x1) 0)) (st_iaddr (xs := a1.States) (e := (eL none (D.int .u16))) hx1 rfl rfl) ?_
  refine q1 _ ?_
  refine step (v := .loc 2 0 (([x1] : List (List Int)).length)) (σ' := (upd (upd (stab [(0, .var [vl1 [], vl0 [], .d (eL none (eL none (D.int .u16)) [])])]) 1 (some (.lst false none (List.map (D.int .u64) ([0] : List Int))))) 2 (some (.lst false none (List.map (eL none (D.int .u16)) ([x1] : List (List Int))))))) (n' := 3) rfl ?_
  refine q1 _ ?_
  refine step (v := .ptr 3 0 0) (σ' := (upd (upd (upd (stab [(0, .var [vl1 [], vl0 [], .d (eL none (eL none (D.int .u16)) [])])]) 1 (some (.lst false none (List.map (D.int .u64) ([0] : List Int))))) 2 (some (.lst false none (List.map (eL none (D.int .u16)) ([x1] : List (List Int)))))) 3 (some (.var [.d (.nils), .d (.nils), .d (.nils)])))) (n' := 4) rfl ?_
  refine step (v := V.undef) (σ' := (upd (upd (upd (upd (stab [(0, .var [vl1 [], vl0 [], .d (eL none (eL none (D.int .u16)) [])])]) 1 (some (.lst false none (List.map (D.int .u64) ([0] : List Int))))) 2 (some (.lst false none (List.map (eL none (D.int .u16)) ([x1] : List (List Int)))))) 3 (some (.var [.d (.nils), .d (.nils), .d (.nils)]))) 3 (some (.var [.d (.nils), .loc 1 0 (([0] : List Int).length), .loc 2 0 (([x1] : List (List Int)).length)])))) (n' := 4) rfl ?_
  exact nR [0, 3, 1, 2]
 refine NWp.seq ?_
 refine NWp.opsJ ⟨tab [(3, vp1 a1), (4, .ptr 0 0 0), (6, .ptr 1 0 0), (7, vi 0)], stab [(0, .var [vl1 [], vl0 [], .d (eL none (eL none (D.int .u16)) [])]), (1, .var [.d (.nils), .loc 2 0 (([0] : List Int).length), .loc 3 0 (([x1] : List (List Int)).length)]), (2, .lst false none (List.map (D.int .u64) ([0] : List Int))), (3, .lst false none (List.map (eL none (D.int .u16)) ([x1] : List (List Int))))], 4⟩ ?_ ?_
 ·
  refine q1 _ ?_
  exact nR [0, 1, 2, 3]
 obtain ⟨q53, hl, h⟩ := bindE h
 refine NWp.norm (s0 := ⟨tab [(3, vp1 a1), (4, .ptr 0 0 0), (6, .ptr 1 0 0), (7, vi 0)], stab [(0, .var [vl1 [], vl0 [], .d (eL none (eL none (D.int .u16)) [])]), (1, .var [.loc 2 0 (([] : List api_Event).length), .loc 3 0 (([0] : List Int).length), .loc 4 0 (([x1] : List (List Int)).length)]), (2, .lst false (some 2) (List.map eapi_Event ([] : List api_Event))), (3, .lst false none (List.map (D.int .u64) ([0] : List Int))), (4, .lst false none (List.map (eL none (D.int .u16)) ([x1] : List (List Int))))], 5⟩) (Norm.trans (s2 := ⟨tab [(3, vp1 a1), (4, .ptr 0 0 0), (6, .ptr 1 0 0), (7, vi 0)], stab [(0, .var [vl1 [], vl0 [], .d (eL none (eL none (D.int .u16)) [])]), (1, .var [.loc 2 0 (([] : List api_Event).length), .loc 3 0 (([0] : List Int).length), .loc 4 0 (([x1] : List (List Int)).length)]), (2, .lst false (some 2) (List.map eapi_Event ([] : List api_Event))), (3, .lst false none (List.map (D.int .u64) ([0] : List Int))), (4, .lst false none (List.map (eL none (D.int .u16)) ([x1] : List (List Int))))], 5⟩) (Norm.nilcell 1 0 false (some 2) rfl rfl (show 1 ≠ 4 by decide)) (nr [0, 1, 4, 2, 3])) ?_
 refine NWp.block ?_
 refine loop_whR (fun (qq : ((List api_Event) × (List Int) × (List (List Int)) × Int)) => ⟨tab [(3, vp1 a1), (4, .ptr 0 0 0), (6, .ptr 1 0 0), (7, vi qq.2.2.2)], stab [(0, .var [vl1 [], vl0 [], .d (eL none (eL none (D.int .u16)) [])]), (1, .var [.loc 2 0 qq.1.length, .loc 3 0 qq.2.1.length, .loc 4 0 qq.2.2.1.length]), (2, .lst false (some 2) (List.map eapi_Event qq.1)), (3, .lst false none (List.map (D.int .u64) qq.2.1)), (4, .lst false none (List.map (eL none (D.int .u16)) qq.2.2.1))], 5⟩) 0 (fun (qq : ((List api_Event) × (List Int) × (List (List Int)) × Int)) => ⟨tab [(4, .ptr 0 0 0), (6, .ptr 1 0 0)], stab [(0, .var [vl1 [], vl0 [], .d (eL none (eL none (D.int .u16)) [])]), (1, .var [.loc 2 0 qq.1.length, .loc 3 0 qq.2.1.length, .loc 4 0 qq.2.2.1.length]), (2, .lst false (some 2) (List.map eapi_Event qq.1)), (3, .lst false none (List.map (D.int .u64) qq.2.1)), (4, .lst false none (List.map (eL none (D.int .u16)) qq.2.2.1))], 5⟩) (r := r) hl ?_ ?_ ?_
 ·
  rintro ⟨l2, l3, l4, i5⟩ xr6 h
  show NWp _ _ _ _ _ ⟨tab [(3, vp1 a1), (4, .ptr 0 0 0), (6, .ptr 1 0 0), (7, vi i5)], stab [(0, .var [vl1 [], vl0 [], .d (eL none (eL none (D.int .u16)) [])]), (1, .var [.loc 2 0 l2.length, .loc 3 0 l3.length, .loc 4 0 l4.length]), (2, .lst false (some 2) (List.map eapi_Event l2)), (3, .lst false none (List.map (D.int .u64) l3)), (4, .lst false none (List.map (eL none (D.int .u16)) l4))], 5⟩
  refine NWp.seq ?_
  refine NWp.opsJ ⟨tab [(3, vp1 a1), (4, .ptr 0 0 0), (6, .ptr 1 0 0), (7, vi i5), (26, vb (decide (i5 < (l3.length : Int))))], stab [(0, .var [vl1 [], vl0 [], .d (eL none (eL none (D.int .u16)) [])]), (1, .var [.loc 2 0 l2.length, .loc 3 0 l3.length, .loc 4 0 l4.length]), (2, .lst false (some 2) (List.map eapi_Event l2)), (3, .lst false none (List.map (D.int .u64) l3)), (4, .lst false none (List.map (eL none (D.int .u16)) l4))], 5⟩ ?_ ?_
  ·
   iterate 5 refine q1 _ ?_
   exact nR [0, 1, 2, 3, 4]
  by_cases hc7 : decide (i5 < (l3.length : Int)) = true
  ·
   replace h := iteT hc7 h
   refine NWp.condT (t := decide (i5 < (l3.length : Int))) rfl hc7 ?_
   refine NWp.skip ?_
   refine NWp.seq ?_
   refine NWp.block ?_
   obtain ⟨x8, hx8, h⟩ := bindE h
   obtain ⟨r9, hr9, h⟩ := bindE h
   refine NWp.opsJ ⟨tab [(3, vp1 a1), (4, .ptr 0 0 0), (6, .ptr 1 0 0), (7, vi i5), (8, vi r9)], stab [(0, .var [vl1 [], vl0 [], .d (eL none (eL none (D.int .u16)) [])]), (1, .var [.loc 2 0 l2.length, .loc 3 0 l3.length, .loc 4 0 l4.length]), (2, .lst false (some 2) (List.map eapi_Event l2)), (3, .lst false none (List.map (D.int .u64) l3)), (4, .lst false none (List.map (eL none (D.int .u16)) l4))], 5⟩ ?_ ?_
   ·
    iterate 5 refine q1 _ ?_
    refine step (v := .ptr 4 i5.toNat 0) (st_iaddrL (xs := l4) (e := (eL none (D.int .u16))) hx8 rfl rfl rfl rfl) ?_
    refine step (v := vl4 x8) (st_loadL (xs := l4) (e := (eL none (D.int .u16))) hx8 rfl rfl rfl) ?_
    refine stepC (r := .int .i64 r9) (ArgsOk.dt (ArgsOk.dt ArgsOk.nil')) (c_ref11_Find hr9) ?_
    refine q1 _ ?_
    exact nR [0, 1, 2, 3, 4]
   refine NWp.opsJ ⟨tab [(3, vp1 a1), (4, .ptr 0 0 0), (6, .ptr 1 0 0), (7, vi i5), (8, vi r9), (9, vi 0)], stab [(0, .var [vl1 [], vl0 [], .d (eL none (eL none (D.int .u16)) [])]), (1, .var [.loc 2 0 l2.length, .loc 3 0 l3.length, .loc 4 0 l4.length]), (2, .lst false (some 2) (List.map eapi_Event l2)), (3, .lst false none (List.map (D.int .u64) l3)), (4, .lst false none (List.map (eL none (D.int .u16)) l4))], 5⟩ ?_ ?_
   ·
    refine q1 _ ?_
    exact nR [0, 1, 2, 3, 4]
   obtain ⟨q48, hl, h⟩ := bindE h
   refine NWp.block ?_
   refine loop_forR (cntU (a1.Edges.length : Int)) (fun (i13 : Int) (qq : ((List api_Event) × (List Int) × (List (List Int)))) => ⟨tab [(3, vp1 a1), (4, .ptr 0 0 0), (6, .ptr 1 0 0), (7, vi i5), (8, vi r9), (9, vi i13)], stab [(0, .var [vl1 [], vl0 [], .d (eL none (eL none (D.int .u16)) [])]), (1, .var [.loc 2 0 qq.1.length, .loc 3 0 qq.2.1.length, .loc 4 0 qq.2.2.length]), (2, .lst false (some 2) (List.map eapi_Event qq.1)), (3, .lst false none (List.map (D.int .u64) qq.2.1)), (4, .lst false none (List.map (eL none (D.int .u16)) qq.2.2))], 5⟩) 2 (fun (qq : ((List api_Event) × (List Int) × (List (List Int)))) => ⟨tab [(3, vp1 a1), (4, .ptr 0 0 0), (6, .ptr 1 0 0), (7, vi i5)], stab [(0, .var [vl1 [], vl0 [], .d (eL none (eL none (D.int .u16)) [])]), (1, .var [.loc 2 0 qq.1.length, .loc 3 0 qq.2.1.length, .loc 4 0 qq.2.2.length]), (2, .lst false (some 2) (List.map eapi_Event qq.1)), (3, .lst false none (List.map (D.int .u64) qq.2.1)), (4, .lst false none (List.map (eL none (D.int .u16)) qq.2.2))], 5⟩) Low low_step (r := xr6) hl (by unfold Low; omega) ?_ ?_ ?_ ?_
   ·
    rintro i13 ⟨l10, l11, l12⟩ xr18 hinv16 hgo15 h
    show NWp _ _ _ _ _ ⟨tab [(3, vp1 a1), (4, .ptr 0 0 0), (6, .ptr 1 0 0), (7, vi i5), (8, vi r9), (9, vi i13)], stab [(0, .var [vl1 [], vl0 [], .d (eL none (eL none (D.int .u16)) [])]), (1, .var [.loc 2 0 l10.length, .loc 3 0 l11.length, .loc 4 0 l12.length]), (2, .lst false (some 2) (List.map eapi_Event l10)), (3, .lst false none (List.map (D.int .u64) l11)), (4, .lst false none (List.map (eL none (D.int .u16)) l12))], 5⟩
    have hc17 : decide (i13 < (a1.Edges.length : Int)) = true := decide_eq_true hgo15
    refine NWp.seq ?_
    refine NWp.opsJ ⟨tab [(3, vp1 a1), (4, .ptr 0 0 0), (6, .ptr 1 0 0), (7, vi i5), (8, vi r9), (9, vi i13), (40, vi (a1.Edges.length : Int)), (41, vb (decide (i13 < (a1.Edges.length : Int))))], stab [(0, .var [vl1 [], vl0 [], .d (eL none (eL none (D.int .u16)) [])]), (1, .var [.loc 2 0 l10.length, .loc 3 0 l11.length, .loc 4 0 l12.length]), (2, .lst false (some 2) (List.map eapi_Event l10)), (3, .lst false none (List.map (D.int .u64) l11)), (4, .lst false none (List.map (eL none (D.int .u16)) l12))], 5⟩ ?_ ?_
    ·
     iterate 3 refine q1 _ ?_
     refine step (v := vi (a1.Edges.length : Int)) (st_len (xs := a1.Edges) (e := eapi_Edge) rfl) ?_
     refine q1 _ ?_
     exact nR [0, 1, 2, 3, 4]
    refine NWp.rng 40 rfl fun hB14 => ?_
    refine NWp.condT (t := decide (i13 < (a1.Edges.length : Int))) rfl hc17 ?_
    refine NWp.skip ?_
    obtain ⟨q44, hv, h⟩ := bindE h
    refine NWp.seqS (fun (qq : ((List api_Event) × (List Int) × (List (List Int)))) => ⟨tab [(3, vp1 a1), (4, .ptr 0 0 0), (6, .ptr 1 0 0), (7, vi i5), (8, vi r9), (9, vi i13)], stab [(0, .var [vl1 [], vl0 [], .d (eL none (eL none (D.int .u16)) [])]), (1, .var [.loc 2 0 qq.1.length, .loc 3 0 qq.2.1.length, .loc 4 0 qq.2.2.length]), (2, .lst false (some 2) (List.map eapi_Event qq.1)), (3, .lst false none (List.map (D.int .u64) qq.2.1)), (4, .lst false none (List.map (eL none (D.int .u16)) qq.2.2))], 5⟩) (xv := q44) (r := xr18) ?_ ?_ ?_
    ·
     replace h := hv
     refine NWp.block ?_
     obtain ⟨x19, hx19, h⟩ := bindE h
     refine NWp.opsJ ⟨tab [(3, vp1 a1), (4, .ptr 0 0 0), (6, .ptr 1 0 0), (7, vi i5), (8, vi r9), (9, vi i13), (10, .ptr 5 0 0)], stab [(0, .var [vl1 [], vl0 [], .d (eL none (eL none (D.int .u16)) [])]), (1, .var [.loc 2 0 l10.length, .loc 3 0 l11.length, .loc 4 0 l12.length]), (2, .lst false (some 2) (List.map eapi_Event l10)), (3, .lst false none (List.map (D.int .u64) l11)), (4, .lst false none (List.map (eL none (D.int .u16)) l12)), (5, bv0 x19)], 6⟩ ?_ ?_
     ·
      iterate 3 refine q1 _ ?_
      refine step (v := .d (.cptr (some 3) (eapi_Edge x19) 0)) (st_iaddr (xs := a1.Edges) (e := eapi_Edge) hx19 rfl rfl) ?_
      refine q1 _ ?_
      refine step (v := .ptr 5 0 0) (σ' := (upd (stab [(0, .var [vl1 [], vl0 [], .d (eL none (eL none (D.int .u16)) [])]), (1, .var [.loc 2 0 l10.length, .loc 3 0 l11.length, .loc 4 0 l12.length]), (2, .lst false (some 2) (List.map eapi_Event l10)), (3, .lst false none (List.map (D.int .u64) l11)), (4, .lst false none (List.map (eL none (D.int .u16)) l12))]) 5 (some (.var [vi 0, vi 0, vi 0])))) (n' := 6) rfl ?_
      refine step (v := V.undef) (σ' := (upd (upd (stab [(0, .var [vl1 [], vl0 [], .d (eL none (eL none (D.int .u16)) [])]), (1, .var [.loc 2 0 l10.length, .loc 3 0 l11.length, .loc 4 0 l12.length]), (2, .lst false (some 2) (List.map eapi_Event l10)), (3, .lst false none (List.map (D.int .u64) l11)), (4, .lst false none (List.map (eL none (D.int .u16)) l12))]) 5 (some (.var [vi 0, vi 0, vi 0]))) 5 (some (bv0 x19)))) (n' := 6) rfl ?_
      exact nR [0, 1, 2, 3, 4, 5]
     refine NWp.seq ?_
     refine NWp.opsJ ⟨tab [(3, vp1 a1), (4, .ptr 0 0 0), (6, .ptr 1 0 0), (7, vi i5), (8, vi r9), (9, vi i13), (10, .ptr 5 0 0), (52, vb (x19.From != r9))], stab [(0, .var [vl1 [], vl0 [], .d (eL none (eL none (D.int .u16)) [])]), (1, .var [.loc 2 0 l10.length, .loc 3 0 l11.length, .loc 4 0 l12.length]), (2, .lst false (some 2) (List.map eapi_Event l10)), (3, .lst false none (List.map (D.int .u64) l11)), (4, .lst false none (List.map (eL none (D.int .u16)) l12)), (5, bv0 x19)], 6⟩ ?_ ?_
     ·
      iterate 4 refine q1 _ ?_
      exact nR [0, 1, 2, 3, 4, 5]
     by_cases hc20 : (x19.From != r9) = true
     ·
      replace h := iteT hc20 h
      refine NWp.condT (t := (x19.From != r9)) rfl hc20 ?_
      have hh := Option.some.inj h
      subst hh
      refine NWp.norm (s0 := ⟨tab [(3, vp1 a1), (4, .ptr 0 0 0), (6, .ptr 1 0 0), (7, vi i5), (8, vi r9), (9, vi i13)], stab [(0, .var [vl1 [], vl0 [], .d (eL none (eL none (D.int .u16)) [])]), (1, .var [.loc 2 0 l10.length, .loc 3 0 l11.length, .loc 4 0 l12.length]), (2, .lst false (some 2) (List.map eapi_Event l10)), (3, .lst false none (List.map (D.int .u64) l11)), (4, .lst false none (List.map (eL none (D.int .u16)) l12))], 5⟩) (nr [0, 1, 2, 3, 4]) ?_
      refine NWp.exit ?_
      exact And.intro rfl rfl
     ·
      replace h := iteF hc20 h
      refine NWp.condF (t := (x19.From != r9)) rfl hc20 ?_
      refine NWp.skip ?_
      obtain ⟨x21, hx21, h⟩ := bindE h
      obtain ⟨r22, hr22, h⟩ := bindE h
      refine NWp.opsJ ⟨tab [(3, vp1 a1), (4, .ptr 0 0 0), (6, .ptr 1 0 0), (7, vi i5), (8, vi r9), (9, vi i13), (10, .ptr 5 0 0), (11, .ptr 6 0 0)], stab [(0, .var [vl1 [], vl0 [], .d (eL none (eL none (D.int .u16)) [])]), (1, .var [.loc 2 0 l10.length, .loc 3 0 l11.length, .loc 4 0 l12.length]), (2, .lst false (some 2) (List.map eapi_Event l10)), (3, .lst false none (List.map (D.int .u64) l11)), (4, .lst false none (List.map (eL none (D.int .u16)) l12)), (5, bv0 x19), (6, .var [vi x19.Rule, vi r22])], 7⟩ ?_ ?_
      ·
       iterate 6 refine q1 _ ?_
       refine step (v := .ptr 3 i5.toNat 0) (st_iaddrL (xs := l11) (e := (D.int .u64)) hx21 rfl rfl rfl rfl) ?_
       refine step (v := .d (.int .u64 x21)) (st_loadL (xs := l11) (e := (D.int .u64)) hx21 rfl rfl rfl) ?_
       iterate 2 refine q1 _ ?_
       refine stepC (r := .int .i64 r22) (ArgsOk.vw (va_agg (optC (vc_l (xs := l10) (e := eapi_Event) rfl rfl) (optC (vc_l (xs := l11) (e := (D.int .u64)) rfl rfl) (optC (vc_l (xs := l12) (e := (eL none (D.int .u16))) rfl rfl) optN)))) (Sub.aggs (by exact ⟨.refl _, .refl _, .refl _, trivial⟩)) (ArgsOk.dt (ArgsOk.dt ArgsOk.nil'))) (c_ref12_times hr22) ?_
       refine step (v := .d (eapi_Event (api_Event.mk x19.Rule r22))) (st_build (ds := [.int .i64 x19.Rule, .int .i64 r22]) rfl) ?_
       refine step (v := .ptr 6 0 0) (σ' := (upd (stab [(0, .var [vl1 [], vl0 [], .d (eL none (eL none (D.int .u16)) [])]), (1, .var [.loc 2 0 l10.length, .loc 3 0 l11.length, .loc 4 0 l12.length]), (2, .lst false (some 2) (List.map eapi_Event l10)), (3, .lst false none (List.map (D.int .u64) l11)), (4, .lst false none (List.map (eL none (D.int .u16)) l12)), (5, bv0 x19)]) 6 (some (.var [vi 0, vi 0])))) (n' := 7) rfl ?_
       refine step (v := V.undef) (σ' := (upd (upd (stab [(0, .var [vl1 [], vl0 [], .d (eL none (eL none (D.int .u16)) [])]), (1, .var [.loc 2 0 l10.length, .loc 3 0 l11.length, .loc 4 0 l12.length]), (2, .lst false (some 2) (List.map eapi_Event l10)), (3, .lst false none (List.map (D.int .u64) l11)), (4, .lst false none (List.map (eL none (D.int .u16)) l12)), (5, bv0 x19)]) 6 (some (.var [vi 0, vi 0]))) 6 (some (.var [vi x19.Rule, vi r22])))) (n' := 7) rfl ?_
       exact nR [0, 1, 2, 3, 4, 5, 6]
      obtain ⟨r23, hr23, h⟩ := bindE h
      refine NWp.opsJ ⟨tab [(3, vp1 a1), (4, .ptr 0 0 0), (6, .ptr 1 0 0), (7, vi i5), (8, vi r9), (9, vi i13), (10, .ptr 5 0 0), (11, .ptr 6 0 0), (12, vi r23)], stab [(0, .var [vl1 [], vl0 [], .d (eL none (eL none (D.int .u16)) [])]), (1, .var [.loc 2 0 l10.length, .loc 3 0 l11.length, .loc 4 0 l12.length]), (2, .lst false (some 2) (List.map eapi_Event l10)), (3, .lst false none (List.map (D.int .u64) l11)), (4, .lst false none (List.map (eL none (D.int .u16)) l12)), (5, bv0 x19), (6, .var [vi x19.Rule, vi r22])], 7⟩ ?_ ?_
      ·
       iterate 2 refine q1 _ ?_
       refine step (v := .d (eapi_Event (api_Event.mk x19.Rule r22))) (st_ldV (ds := [.int .i64 x19.Rule, .int .i64 r22]) rfl rfl (show 2 ≤ 2 by decide) rfl) ?_
       refine stepC (r := .int .i64 r23) (ArgsOk.lcm (xs := l10) (e := eapi_Event) rfl rfl (ArgsOk.dt ArgsOk.nil')) (c_ref12_find hr23) ?_
       refine q1 _ ?_
       exact nR [0, 1, 2, 3, 4, 5, 6]
      obtain ⟨q28, hv, h⟩ := bindE h
      obtain ⟨l26, y27⟩ := q28
      refine NWp.seqN ⟨tab [(3, vp1 a1), (4, .ptr 0 0 0), (6, .ptr 1 0 0), (7, vi i5), (8, vi r9), (9, vi i13), (10, .ptr 5 0 0), (12, vi y27)], stab [(0, .var [vl1 [], vl0 [], .d (eL none (eL none (D.int .u16)) [])]), (1, .var [.loc 2 0 l26.length, .loc 3 0 l11.length, .loc 4 0 l12.length]), (2, .lst false (some 2) (List.map eapi_Event l26)), (3, .lst false none (List.map (D.int .u64) l11)), (4, .lst false none (List.map (eL none (D.int .u16)) l12)), (5, bv0 x19)], 6⟩ ?_ ?_
      ·
       replace h := hv
       refine NWp.opsJ ⟨tab [(3, vp1 a1), (4, .ptr 0 0 0), (6, .ptr 1 0 0), (7, vi i5), (8, vi r9), (9, vi i13), (10, .ptr 5 0 0), (11, .ptr 6 0 0), (12, vi r23), (70, vb (decide (r23 < 0)))], stab [(0, .var [vl1 [], vl0 [], .d (eL none (eL none (D.int .u16)) [])]), (1, .var [.loc 2 0 l10.length, .loc 3 0 l11.length, .loc 4 0 l12.length]), (2, .lst false (some 2) (List.map eapi_Event l10)), (3, .lst false none (List.map (D.int .u64) l11)), (4, .lst false none (List.map (eL none (D.int .u16)) l12)), (5, bv0 x19), (6, .var [vi x19.Rule, vi r22])], 7⟩ ?_ ?_
       ·
        iterate 2 refine q1 _ ?_
        exact nR [0, 1, 2, 3, 4, 5, 6]
       by_cases hc24 : decide (r23 < 0) = true
       ·
        replace h := iteT hc24 h
        refine NWp.condT (t := decide (r23 < 0)) rfl hc24 ?_
        refine NWp.opsJ ⟨tab [(3, vp1 a1), (4, .ptr 0 0 0), (6, .ptr 1 0 0), (7, vi i5), (8, vi r9), (9, vi i13), (10, .ptr 5 0 0), (11, .ptr 6 0 0), (12, vi (l10.length : Int))], stab [(0, .var [vl1 [], vl0 [], .d (eL none (eL none (D.int .u16)) [])]), (1, .var [.loc 2 0 l10.length, .loc 3 0 l11.length, .loc 4 0 l12.length]), (2, .lst false (some 2) (List.map eapi_Event l10)), (3, .lst false none (List.map (D.int .u64) l11)), (4, .lst false none (List.map (eL none (D.int .u16)) l12)), (5, bv0 x19), (6, .var [vi x19.Rule, vi r22])], 7⟩ ?_ ?_
        ·
         iterate 4 refine q1 _ ?_
         exact nR [0, 1, 2, 3, 4, 5, 6]
        obtain ⟨l25, hl25, h⟩ := bindE h
        have hh := Option.some.inj h
        obtain ⟨he0, ht0⟩ := Prod.mk.inj hh
        subst he0
        subst ht0
        refine NWp.opsE ⟨tab [(3, vp1 a1), (4, .ptr 0 0 0), (6, .ptr 1 0 0), (7, vi i5), (8, vi r9), (9, vi i13), (10, .ptr 5 0 0), (12, vi (l10.length : Int))], stab [(0, .var [vl1 [], vl0 [], .d (eL none (eL none (D.int .u16)) [])]), (1, .var [.loc 2 0 l25.length, .loc 3 0 l11.length, .loc 4 0 l12.length]), (2, .lst false (some 2) (List.map eapi_Event l25)), (3, .lst false none (List.map (D.int .u64) l11)), (4, .lst false none (List.map (eL none (D.int .u16)) l12)), (5, bv0 x19)], 6⟩ ?_ ?_
        ·
         iterate 2 refine q1 _ ?_
         refine step (v := .d (eapi_Event (api_Event.mk x19.Rule r22))) (st_ldV (ds := [.int .i64 x19.Rule, .int .i64 r22]) rfl rfl (show 2 ≤ 2 by decide) rfl) ?_
         refine q1 _ ?_
         refine step (v := .loc 7 0 l25.length) (σ' := (upd (upd (stab [(0, .var [vl1 [], vl0 [], .d (eL none (eL none (D.int .u16)) [])]), (1, .var [.loc 2 0 l10.length, .loc 3 0 l11.length, .loc 4 0 l12.length]), (2, .lst false (some 2) (List.map eapi_Event l10)), (3, .lst false none (List.map (D.int .u64) l11)), (4, .lst false none (List.map (eL none (D.int .u16)) l12)), (5, bv0 x19), (6, .var [vi x19.Rule, vi r22])]) 2 none) 7 (some (.lst false (some 2) (List.map eapi_Event l25))))) (n' := 8) (st_app (xs := l10) (ys := ([(api_Event.mk x19.Rule r22)] : List api_Event)) (e := eapi_Event) hl25 rfl rfl rfl (src_v (xs := ([(api_Event.mk x19.Rule r22)] : List api_Event)) (e := eapi_Event) rfl)) ?_
         refine q1 _ ?_
         refine step (v := V.undef) (σ' := (upd (upd (upd (stab [(0, .var [vl1 [], vl0 [], .d (eL none (eL none (D.int .u16)) [])]), (1, .var [.loc 2 0 l10.length, .loc 3 0 l11.length, .loc 4 0 l12.length]), (2, .lst false (some 2) (List.map eapi_Event l10)), (3, .lst false none (List.map (D.int .u64) l11)), (4, .lst false none (List.map (eL none (D.int .u16)) l12)), (5, bv0 x19), (6, .var [vi x19.Rule, vi r22])]) 2 none) 7 (some (.lst false (some 2) (List.map eapi_Event l25)))) 1 (some (.var [.loc 7 0 l25.length, .loc 3 0 l11.length, .loc 4 0 l12.length])))) (n' := 8) rfl ?_
         exact nR [0, 1, 7, 3, 4, 5]
        exact And.intro rfl rfl
       ·
        replace h := iteF hc24 h
        refine NWp.condF (t := decide (r23 < 0)) rfl hc24 ?_
        have hh := Option.some.inj h
        obtain ⟨he0, ht0⟩ := Prod.mk.inj hh
        subst he0
        subst ht0
        refine NWp.norm (s0 := ⟨tab [(3, vp1 a1), (4, .ptr 0 0 0), (6, .ptr 1 0 0), (7, vi i5), (8, vi r9), (9, vi i13), (10, .ptr 5 0 0), (12, vi r23)], stab [(0, .var [vl1 [], vl0 [], .d (eL none (eL none (D.int .u16)) [])]), (1, .var [.loc 2 0 l10.length, .loc 3 0 l11.length, .loc 4 0 l12.length]), (2, .lst false (some 2) (List.map eapi_Event l10)), (3, .lst false none (List.map (D.int .u64) l11)), (4, .lst false none (List.map (eL none (D.int .u16)) l12)), (5, bv0 x19)], 6⟩) (nr [0, 1, 2, 3, 4, 5]) ?_
        refine NWp.skip ?_
        exact And.intro rfl rfl
      refine NWp.seq ?_
      refine NWp.opsJ ⟨tab [(3, vp1 a1), (4, .ptr 0 0 0), (6, .ptr 1 0 0), (7, vi i5), (8, vi r9), (9, vi i13), (10, .ptr 5 0 0), (12, vi y27), (81, vb (decide (y27 > 63)))], stab [(0, .var [vl1 [], vl0 [], .d (eL none (eL none (D.int .u16)) [])]), (1, .var [.loc 2 0 l26.length, .loc 3 0 l11.length, .loc 4 0 l12.length]), (2, .lst false (some 2) (List.map eapi_Event l26)), (3, .lst false none (List.map (D.int .u64) l11)), (4, .lst false none (List.map (eL none (D.int .u16)) l12)), (5, bv0 x19)], 6⟩ ?_ ?_
      ·
       iterate 2 refine q1 _ ?_
       exact nR [0, 1, 2, 3, 4, 5]
      by_cases hc29 : decide (y27 > 63) = true
      ·
       replace h := iteT hc29 h
       refine NWp.condT (t := decide (y27 > 63)) rfl hc29 ?_
       refine NWp.opsJ ⟨tab [(4, .ptr 0 0 0), (5, vi 21)], stab [(0, .var [vl1 [], vl0 [], .d (eL none (eL none (D.int .u16)) [])])], 1⟩ ?_ ?_
       ·
        refine step (v := vs1 (api_Nes.mk [] [] [])) (st_build (ds := [eL (some 2) eapi_Event [], eL none (D.int .u64) [], eL none (eL none (D.int .u16)) []]) rfl) ?_
        refine step (v := V.undef) (σ' := (upd (stab [(0, .var [vl1 [], vl0 [], .d (eL none (eL none (D.int .u16)) [])]), (1, .var [.loc 2 0 l26.length, .loc 3 0 l11.length, .loc 4 0 l12.length]), (2, .lst false (some 2) (List.map eapi_Event l26)), (3, .lst false none (List.map (D.int .u64) l11)), (4, .lst false none (List.map (eL none (D.int .u16)) l12)), (5, bv0 x19)]) 0 (some (.var [vl1 [], vl0 [], .d (eL none (eL none (D.int .u16)) [])])))) (n' := 6) rfl ?_
        refine q1 _ ?_
        exact nR [0]
       obtain ⟨r30, kr30, hr⟩ := mapE (o := some (Br.ret (Br.ret ((api_Nes.mk [] [] []), 21)))) (g := Sum.inr) h
       subst hr
       have h := kr30
       obtain ⟨r31, kr31, hr⟩ := mapE (o := some (Br.ret ((api_Nes.mk [] [] []), 21))) (g := Br.ret) h
       subst hr
       have h := kr31
       obtain ⟨r32, kr32, hr⟩ := mapE (o := some ((api_Nes.mk [] [] []), 21)) (g := Br.ret) h
       subst hr
       have h := kr32
       have hh := Option.some.inj h
       subst hh
       refine NWp.ret ?_
       refine And.intro (fun hn => nomatch hn) ?_
       intro hq
       have hq := hq.symm
       subst hq
       refine And.intro (fun hn => nomatch hn) ?_
       intro hq
       have hq := hq.symm
       subst hq
       refine And.intro (fun hn => nomatch hn) ?_
       intro hq
       have hq := hq.symm
       subst hq
       show FQ _ _ _ _
       exact FQ.mkT (.inr rfl) (res_cell (ds := [eL (some 2) eapi_Event [], eL none (D.int .u64) [], eL none (eL none (D.int .u16)) []]) rfl rfl (show 3 ≤ 3 by decide) rfl (res_t (v := vi 21) rfl rfl)) (RV.d (RV.d trivial))
      ·
       replace h := iteF hc29 h
       refine NWp.condF (t := decide (y27 > 63)) rfl hc29 ?_
       refine NWp.skip ?_
       obtain ⟨r30, hr30, h⟩ := bindE h
       refine NWp.opsJ ⟨tab [(3, vp1 a1), (4, .ptr 0 0 0), (6, .ptr 1 0 0), (7, vi i5), (8, vi r9), (9, vi i13), (10, .ptr 5 0 0), (13, .d (.int .u64 r30))], stab [(0, .var [vl1 [], vl0 [], .d (eL none (eL none (D.int .u16)) [])]), (1, .var [.loc 2 0 l26.length, .loc 3 0 l11.length, .loc 4 0 l12.length]), (2, .lst false (some 2) (List.map eapi_Event l26)), (3, .lst false none (List.map (D.int .u64) l11)), (4, .lst false none (List.map (eL none (D.int .u16)) l12)), (5, bv0 x19)], 6⟩ ?_ ?_
       ·
        iterate 3 refine q1 _ ?_
        refine step (v := .ptr 3 i5.toNat 0) (st_iaddrL (xs := l11) (e := (D.int .u64)) hx21 rfl rfl rfl rfl) ?_
        refine step (v := .d (.int .u64 x21)) (st_loadL (xs := l11) (e := (D.int .u64)) hx21 rfl rfl rfl) ?_
        refine q1 _ ?_
        refine stepC (r := .int .u64 r30) (ArgsOk.dt (ArgsOk.dt ArgsOk.nil')) (c_ref02_With hr30) ?_
        refine q1 _ ?_
        exact nR [0, 1, 2, 3, 4, 5]
       obtain ⟨r31, hr31, h⟩ := bindE h
       refine NWp.opsJ ⟨tab [(3, vp1 a1), (4, .ptr 0 0 0), (6, .ptr 1 0 0), (7, vi i5), (8, vi r9), (9, vi i13), (10, .ptr 5 0 0), (13, .d (.int .u64 r30)), (14, vi r31)], stab [(0, .var [vl1 [], vl0 [], .d (eL none (eL none (D.int .u16)) [])]), (1, .var [.loc 2 0 l26.length, .loc 3 0 l11.length, .loc 4 0 l12.length]), (2, .lst false (some 2) (List.map eapi_Event l26)), (3, .lst false none (List.map (D.int .u64) l11)), (4, .lst false none (List.map (eL none (D.int .u16)) l12)), (5, bv0 x19)], 6⟩ ?_ ?_
       ·
        iterate 2 refine q1 _ ?_
        refine stepC (r := .int .i64 r31) (ArgsOk.vw (va_agg (optC (vc_l (xs := l26) (e := eapi_Event) rfl rfl) (optC (vc_l (xs := l11) (e := (D.int .u64)) rfl rfl) (optC (vc_l (xs := l12) (e := (eL none (D.int .u16))) rfl rfl) optN)))) (Sub.aggs (by exact ⟨.refl _, .refl _, .refl _, trivial⟩)) (ArgsOk.dt ArgsOk.nil')) (c_ref12_Tag hr31) ?_
        refine q1 _ ?_
        exact nR [0, 1, 2, 3, 4, 5]
       refine NWp.seq ?_
       refine NWp.opsJ ⟨tab [(3, vp1 a1), (4, .ptr 0 0 0), (6, .ptr 1 0 0), (7, vi i5), (8, vi r9), (9, vi i13), (10, .ptr 5 0 0), (13, .d (.int .u64 r30)), (14, vi r31), (94, vb (decide (r31 ≥ 0)))], stab [(0, .var [vl1 [], vl0 [], .d (eL none (eL none (D.int .u16)) [])]), (1, .var [.loc 2 0 l26.length, .loc 3 0 l11.length, .loc 4 0 l12.length]), (2, .lst false (some 2) (List.map eapi_Event l26)), (3, .lst false none (List.map (D.int .u64) l11)), (4, .lst false none (List.map (eL none (D.int .u16)) l12)), (5, bv0 x19)], 6⟩ ?_ ?_
       ·
        iterate 2 refine q1 _ ?_
        exact nR [0, 1, 2, 3, 4, 5]
       by_cases hc32 : decide (r31 ≥ 0) = true
       ·
        replace h := iteT hc32 h
        refine NWp.condT (t := decide (r31 ≥ 0)) rfl hc32 ?_
        refine NWp.seq ?_
        obtain ⟨x33, hx33, h⟩ := bindE h
        obtain ⟨x34, hx34, h⟩ := bindE h
        obtain ⟨r35, hr35, h⟩ := bindE h
        refine NWp.opsJ ⟨tab [(3, vp1 a1), (4, .ptr 0 0 0), (6, .ptr 1 0 0), (7, vi i5), (8, vi r9), (9, vi i13), (107, vb (!r35))], stab [(0, .var [vl1 [], vl0 [], .d (eL none (eL none (D.int .u16)) [])]), (1, .var [.loc 2 0 l26.length, .loc 3 0 l11.length, .loc 4 0 l12.length]), (2, .lst false (some 2) (List.map eapi_Event l26)), (3, .lst false none (List.map (D.int .u64) l11)), (4, .lst false none (List.map (eL none (D.int .u16)) l12))], 5⟩ ?_ ?_
        ·
         iterate 3 refine q1 _ ?_
         refine step (v := .ptr 4 r31.toNat 0) (st_iaddrL (xs := l12) (e := (eL none (D.int .u16))) hx33 rfl rfl rfl rfl) ?_
         refine step (v := vl4 x33) (st_loadL (xs := l12) (e := (eL none (D.int .u16))) hx33 rfl rfl rfl) ?_
         iterate 4 refine q1 _ ?_
         refine step (v := .d (.cptr none (eL none (D.int .u16) x34) 0)) (st_iaddr (xs := a1.States) (e := (eL none (D.int .u16))) hx34 rfl rfl) ?_
         refine q1 _ ?_
         refine stepC (r := .bool r35) (ArgsOk.dt (ArgsOk.dt ArgsOk.nil')) (c_ref11_Same hr35) ?_
         refine q1 _ ?_
         exact nR [0, 1, 2, 3, 4]
        by_cases hc36 : (!r35) = true
        ·
         replace h := iteT hc36 h
         refine NWp.condT (t := (!r35)) rfl hc36 ?_
         refine NWp.opsJ ⟨tab [(4, .ptr 0 0 0), (5, vi 22)], stab [(0, .var [vl1 [], vl0 [], .d (eL none (eL none (D.int .u16)) [])])], 1⟩ ?_ ?_
         ·
          refine step (v := vs1 (api_Nes.mk [] [] [])) (st_build (ds := [eL (some 2) eapi_Event [], eL none (D.int .u64) [], eL none (eL none (D.int .u16)) []]) rfl) ?_
          refine step (v := V.undef) (σ' := (upd (stab [(0, .var [vl1 [], vl0 [], .d (eL none (eL none (D.int .u16)) [])]), (1, .var [.loc 2 0 l26.length, .loc 3 0 l11.length, .loc 4 0 l12.length]), (2, .lst false (some 2) (List.map eapi_Event l26)), (3, .lst false none (List.map (D.int .u64) l11)), (4, .lst false none (List.map (eL none (D.int .u16)) l12))]) 0 (some (.var [vl1 [], vl0 [], .d (eL none (eL none (D.int .u16)) [])])))) (n' := 5) rfl ?_
          refine q1 _ ?_
          exact nR [0]
         obtain ⟨r37, kr37, hr⟩ := mapE (o := some (Br.ret (Br.ret ((api_Nes.mk [] [] []), 22)))) (g := Sum.inr) h
         subst hr
         have h := kr37
         obtain ⟨r38, kr38, hr⟩ := mapE (o := some (Br.ret ((api_Nes.mk [] [] []), 22))) (g := Br.ret) h
         subst hr
         have h := kr38
         obtain ⟨r39, kr39, hr⟩ := mapE (o := some ((api_Nes.mk [] [] []), 22)) (g := Br.ret) h
         subst hr
         have h := kr39
         have hh := Option.some.inj h
         subst hh
         refine NWp.ret ?_
         refine And.intro (fun hn => nomatch hn) ?_
         intro hq
         have hq := hq.symm
         subst hq
         refine And.intro (fun hn => nomatch hn) ?_
         intro hq
         have hq := hq.symm
         subst hq
         refine And.intro (fun hn => nomatch hn) ?_
         intro hq
         have hq := hq.symm
         subst hq
         show FQ _ _ _ _
         exact FQ.mkT (.inr rfl) (res_cell (ds := [eL (some 2) eapi_Event [], eL none (D.int .u64) [], eL none (eL none (D.int .u16)) []]) rfl rfl (show 3 ≤ 3 by decide) rfl (res_t (v := vi 22) rfl rfl)) (RV.d (RV.d trivial))
        ·
         replace h := iteF hc36 h
         refine NWp.condF (t := (!r35)) rfl hc36 ?_
         refine NWp.skip ?_
         have hh := Option.some.inj h
         subst hh
         refine NWp.norm (s0 := ⟨tab [(3, vp1 a1), (4, .ptr 0 0 0), (6, .ptr 1 0 0), (7, vi i5), (8, vi r9), (9, vi i13)], stab [(0, .var [vl1 [], vl0 [], .d (eL none (eL none (D.int .u16)) [])]), (1, .var [.loc 2 0 l26.length, .loc 3 0 l11.length, .loc 4 0 l12.length]), (2, .lst false (some 2) (List.map eapi_Event l26)), (3, .lst false none (List.map (D.int .u64) l11)), (4, .lst false none (List.map (eL none (D.int .u16)) l12))], 5⟩) (nr [0, 1, 2, 3, 4]) ?_
         refine NWp.exit ?_
         exact And.intro rfl rfl
       ·
        replace h := iteF hc32 h
        refine NWp.condF (t := decide (r31 ≥ 0)) rfl hc32 ?_
        refine NWp.skip ?_
        obtain ⟨l37, hl37, h⟩ := bindE h
        refine NWp.opsJ ⟨tab [(3, vp1 a1), (4, .ptr 0 0 0), (6, .ptr 1 0 0), (7, vi i5), (8, vi r9), (9, vi i13), (10, .ptr 5 0 0)], stab [(0, .var [vl1 [], vl0 [], .d (eL none (eL none (D.int .u16)) [])]), (1, .var [.loc 2 0 l26.length, .loc 3 0 l37.length, .loc 4 0 l12.length]), (2, .lst false (some 2) (List.map eapi_Event l26)), (3, .lst false none (List.map (D.int .u64) l37)), (4, .lst false none (List.map (eL none (D.int .u16)) l12)), (5, bv0 x19)], 6⟩ ?_ ?_
        ·
         iterate 4 refine q1 _ ?_
         refine step (v := .loc 6 0 l37.length) (σ' := (upd (upd (stab [(0, .var [vl1 [], vl0 [], .d (eL none (eL none (D.int .u16)) [])]), (1, .var [.loc 2 0 l26.length, .loc 3 0 l11.length, .loc 4 0 l12.length]), (2, .lst false (some 2) (List.map eapi_Event l26)), (3, .lst false none (List.map (D.int .u64) l11)), (4, .lst false none (List.map (eL none (D.int .u16)) l12)), (5, bv0 x19)]) 3 none) 6 (some (.lst false none (List.map (D.int .u64) l37))))) (n' := 7) (st_app (xs := l11) (ys := ([r30] : List Int)) (e := (D.int .u64)) hl37 rfl rfl rfl (src_v (xs := ([r30] : List Int)) (e := (D.int .u64)) rfl)) ?_
         refine q1 _ ?_
         refine step (v := V.undef) (σ' := (upd (upd (upd (stab [(0, .var [vl1 [], vl0 [], .d (eL none (eL none (D.int .u16)) [])]), (1, .var [.loc 2 0 l26.length, .loc 3 0 l11.length, .loc 4 0 l12.length]), (2, .lst false (some 2) (List.map eapi_Event l26)), (3, .lst false none (List.map (D.int .u64) l11)), (4, .lst false none (List.map (eL none (D.int .u16)) l12)), (5, bv0 x19)]) 3 none) 6 (some (.lst false none (List.map (D.int .u64) l37)))) 1 (some (.var [.loc 2 0 l26.length, .loc 6 0 l37.length, .loc 4 0 l12.length])))) (n' := 7) rfl ?_
         exact nR [0, 1, 2, 6, 4, 5]
        obtain ⟨x38, hx38, h⟩ := bindE h
        obtain ⟨l39, hl39, h⟩ := bindE h
        refine NWp.opsJ ⟨tab [(3, vp1 a1), (4, .ptr 0 0 0), (6, .ptr 1 0 0), (7, vi i5), (8, vi r9), (9, vi i13)], stab [(0, .var [vl1 [], vl0 [], .d (eL none (eL none (D.int .u16)) [])]), (1, .var [.loc 2 0 l26.length, .loc 3 0 l37.length, .loc 4 0 l39.length]), (2, .lst false (some 2) (List.map eapi_Event l26)), (3, .lst false none (List.map (D.int .u64) l37)), (4, .lst false none (List.map (eL none (D.int .u16)) l39))], 5⟩ ?_ ?_
        ·
         iterate 6 refine q1 _ ?_
         refine step (v := .d (.cptr none (eL none (D.int .u16) x38) 0)) (st_iaddr (xs := a1.States) (e := (eL none (D.int .u16))) hx38 rfl rfl) ?_
         iterate 2 refine q1 _ ?_
         refine step (v := .loc 6 0 l39.length) (σ' := (upd (upd (stab [(0, .var [vl1 [], vl0 [], .d (eL none (eL none (D.int .u16)) [])]), (1, .var [.loc 2 0 l26.length, .loc 3 0 l37.length, .loc 4 0 l12.length]), (2, .lst false (some 2) (List.map eapi_Event l26)), (3, .lst false none (List.map (D.int .u64) l37)), (4, .lst false none (List.map (eL none (D.int .u16)) l12)), (5, bv0 x19)]) 4 none) 6 (some (.lst false none (List.map (eL none (D.int .u16)) l39))))) (n' := 7) (st_app (xs := l12) (ys := ([x38] : List (List Int))) (e := (eL none (D.int .u16))) hl39 rfl rfl rfl (src_v (xs := ([x38] : List (List Int))) (e := (eL none (D.int .u16))) rfl)) ?_
         refine q1 _ ?_
         refine step (v := V.undef) (σ' := (upd (upd (upd (stab [(0, .var [vl1 [], vl0 [], .d (eL none (eL none (D.int .u16)) [])]), (1, .var [.loc 2 0 l26.length, .loc 3 0 l37.length, .loc 4 0 l12.length]), (2, .lst false (some 2) (List.map eapi_Event l26)), (3, .lst false none (List.map (D.int .u64) l37)), (4, .lst false none (List.map (eL none (D.int .u16)) l12)), (5, bv0 x19)]) 4 none) 6 (some (.lst false none (List.map (eL none (D.int .u16)) l39)))) 1 (some (.var [.loc 2 0 l26.length, .loc 3 0 l37.length, .loc 6 0 l39.length])))) (n' := 7) rfl ?_
         exact nR [0, 1, 2, 3, 6]
        refine NWp.opsJ ⟨tab [(3, vp1 a1), (4, .ptr 0 0 0), (6, .ptr 1 0 0), (7, vi i5), (8, vi r9), (9, vi i13), (129, vb (decide ((l37.length : Int) > 256)))], stab [(0, .var [vl1 [], vl0 [], .d (eL none (eL none (D.int .u16)) [])]), (1, .var [.loc 2 0 l26.length, .loc 3 0 l37.length, .loc 4 0 l39.length]), (2, .lst false (some 2) (List.map eapi_Event l26)), (3, .lst false none (List.map (D.int .u64) l37)), (4, .lst false none (List.map (eL none (D.int .u16)) l39))], 5⟩ ?_ ?_
        ·
         iterate 4 refine q1 _ ?_
         exact nR [0, 1, 2, 3, 4]
        by_cases hc40 : decide ((l37.length : Int) > 256) = true
        ·
         replace h := iteT hc40 h
         refine NWp.condT (t := decide ((l37.length : Int) > 256)) rfl hc40 ?_
         refine NWp.opsJ ⟨tab [(4, .ptr 0 0 0), (5, vi 21)], stab [(0, .var [vl1 [], vl0 [], .d (eL none (eL none (D.int .u16)) [])])], 1⟩ ?_ ?_
         ·
          refine step (v := vs1 (api_Nes.mk [] [] [])) (st_build (ds := [eL (some 2) eapi_Event [], eL none (D.int .u64) [], eL none (eL none (D.int .u16)) []]) rfl) ?_
          refine step (v := V.undef) (σ' := (upd (stab [(0, .var [vl1 [], vl0 [], .d (eL none (eL none (D.int .u16)) [])]), (1, .var [.loc 2 0 l26.length, .loc 3 0 l37.length, .loc 4 0 l39.length]), (2, .lst false (some 2) (List.map eapi_Event l26)), (3, .lst false none (List.map (D.int .u64) l37)), (4, .lst false none (List.map (eL none (D.int .u16)) l39))]) 0 (some (.var [vl1 [], vl0 [], .d (eL none (eL none (D.int .u16)) [])])))) (n' := 5) rfl ?_
          refine q1 _ ?_
          exact nR [0]
         obtain ⟨r41, kr41, hr⟩ := mapE (o := some (Br.ret (Br.ret ((api_Nes.mk [] [] []), 21)))) (g := Sum.inr) h
         subst hr
         have h := kr41
         obtain ⟨r42, kr42, hr⟩ := mapE (o := some (Br.ret ((api_Nes.mk [] [] []), 21))) (g := Br.ret) h
         subst hr
         have h := kr42
         obtain ⟨r43, kr43, hr⟩ := mapE (o := some ((api_Nes.mk [] [] []), 21)) (g := Br.ret) h
         subst hr
         have h := kr43
         have hh := Option.some.inj h
         subst hh
         refine NWp.ret ?_
         refine And.intro (fun hn => nomatch hn) ?_
         intro hq
         have hq := hq.symm
         subst hq
         refine And.intro (fun hn => nomatch hn) ?_
         intro hq
         have hq := hq.symm
         subst hq
         refine And.intro (fun hn => nomatch hn) ?_
         intro hq
         have hq := hq.symm
         subst hq
         show FQ _ _ _ _
         exact FQ.mkT (.inr rfl) (res_cell (ds := [eL (some 2) eapi_Event [], eL none (D.int .u64) [], eL none (eL none (D.int .u16)) []]) rfl rfl (show 3 ≤ 3 by decide) rfl (res_t (v := vi 21) rfl rfl)) (RV.d (RV.d trivial))
        ·
         replace h := iteF hc40 h
         refine NWp.condF (t := decide ((l37.length : Int) > 256)) rfl hc40 ?_
         have hh := Option.some.inj h
         subst hh
         refine NWp.norm (s0 := ⟨tab [(3, vp1 a1), (4, .ptr 0 0 0), (6, .ptr 1 0 0), (7, vi i5), (8, vi r9), (9, vi i13)], stab [(0, .var [vl1 [], vl0 [], .d (eL none (eL none (D.int .u16)) [])]), (1, .var [.loc 2 0 l26.length, .loc 3 0 l37.length, .loc 4 0 l39.length]), (2, .lst false (some 2) (List.map eapi_Event l26)), (3, .lst false none (List.map (D.int .u64) l37)), (4, .lst false none (List.map (eL none (D.int .u16)) l39))], 5⟩) (nr [0, 1, 2, 3, 4]) ?_
         refine NWp.skip ?_
         exact And.intro rfl rfl
    ·
     intro r' hq
     subst hq
     exact Option.some.inj h
    rintro ⟨l41, l42, l43⟩ rfl
    show NWp _ _ _ _ _ ⟨tab [(3, vp1 a1), (4, .ptr 0 0 0), (6, .ptr 1 0 0), (7, vi i5), (8, vi r9), (9, vi i13)], stab [(0, .var [vl1 [], vl0 [], .d (eL none (eL none (D.int .u16)) [])]), (1, .var [.loc 2 0 l41.length, .loc 3 0 l42.length, .loc 4 0 l43.length]), (2, .lst false (some 2) (List.map eapi_Event l41)), (3, .lst false none (List.map (D.int .u64) l42)), (4, .lst false none (List.map (eL none (D.int .u16)) l43))], 5⟩
    have hh := Option.some.inj h
    subst hh
    refine NWp.opsE ⟨tab [(3, vp1 a1), (4, .ptr 0 0 0), (6, .ptr 1 0 0), (7, vi i5), (8, vi r9), (9, vi (i13 + 1))], stab [(0, .var [vl1 [], vl0 [], .d (eL none (eL none (D.int .u16)) [])]), (1, .var [.loc 2 0 l41.length, .loc 3 0 l42.length, .loc 4 0 l43.length]), (2, .lst false (some 2) (List.map eapi_Event l41)), (3, .lst false none (List.map (D.int .u64) l42)), (4, .lst false none (List.map (eL none (D.int .u16)) l43))], 5⟩ ?_ ?_
    ·
     refine q1 _ ?_
     refine step (v := vi (i13 + 1)) (st_inc (inc_ok hinv16 hgo15 hB14) rfl rfl) ?_
     refine q1 _ ?_
     exact nR [0, 1, 2, 3, 4]
    exact And.intro rfl rfl
   ·
    rintro i13 ⟨l10, l11, l12⟩ hinv16 hgo15
    show NWp _ _ _ _ _ ⟨tab [(3, vp1 a1), (4, .ptr 0 0 0), (6, .ptr 1 0 0), (7, vi i5), (8, vi r9), (9, vi i13)], stab [(0, .var [vl1 [], vl0 [], .d (eL none (eL none (D.int .u16)) [])]), (1, .var [.loc 2 0 l10.length, .loc 3 0 l11.length, .loc 4 0 l12.length]), (2, .lst false (some 2) (List.map eapi_Event l10)), (3, .lst false none (List.map (D.int .u64) l11)), (4, .lst false none (List.map (eL none (D.int .u16)) l12))], 5⟩
    have hc17 : ¬ (decide (i13 < (a1.Edges.length : Int)) = true) := fun hq => hgo15 (of_decide_eq_true hq)
    refine NWp.seq ?_
    refine NWp.opsJ ⟨tab [(3, vp1 a1), (4, .ptr 0 0 0), (6, .ptr 1 0 0), (7, vi i5), (8, vi r9), (9, vi i13), (41, vb (decide (i13 < (a1.Edges.length : Int))))], stab [(0, .var [vl1 [], vl0 [], .d (eL none (eL none (D.int .u16)) [])]), (1, .var [.loc 2 0 l10.length, .loc 3 0 l11.length, .loc 4 0 l12.length]), (2, .lst false (some 2) (List.map eapi_Event l10)), (3, .lst false none (List.map (D.int .u64) l11)), (4, .lst false none (List.map (eL none (D.int .u16)) l12))], 5⟩ ?_ ?_
    ·
     iterate 3 refine q1 _ ?_
     refine step (v := vi (a1.Edges.length : Int)) (st_len (xs := a1.Edges) (e := eapi_Edge) rfl) ?_
     refine q1 _ ?_
     exact nR [0, 1, 2, 3, 4]
    refine NWp.condF (t := decide (i13 < (a1.Edges.length : Int))) rfl hc17 ?_
    refine NWp.norm (s0 := ⟨tab [(3, vp1 a1), (4, .ptr 0 0 0), (6, .ptr 1 0 0), (7, vi i5)], stab [(0, .var [vl1 [], vl0 [], .d (eL none (eL none (D.int .u16)) [])]), (1, .var [.loc 2 0 l10.length, .loc 3 0 l11.length, .loc 4 0 l12.length]), (2, .lst false (some 2) (List.map eapi_Event l10)), (3, .lst false none (List.map (D.int .u64) l11)), (4, .lst false none (List.map (eL none (D.int .u16)) l12))], 5⟩) (nr [0, 1, 2, 3, 4]) ?_
    refine NWp.exit ?_
    exact And.intro rfl rfl
   ·
    intro r' hq
    subst hq
    exact Option.some.inj h
   rintro ⟨z45, z46, z47⟩ rfl
   have hh := Option.some.inj h
   subst hh
   refine NWp.opsE ⟨tab [(3, vp1 a1), (4, .ptr 0 0 0), (6, .ptr 1 0 0), (7, vi (IntKind.i64.wrap (i5 + 1)))], stab [(0, .var [vl1 [], vl0 [], .d (eL none (eL none (D.int .u16)) [])]), (1, .var [.loc 2 0 z45.length, .loc 3 0 z46.length, .loc 4 0 z47.length]), (2, .lst false (some 2) (List.map eapi_Event z45)), (3, .lst false none (List.map (D.int .u64) z46)), (4, .lst false none (List.map (eL none (D.int .u16)) z47))], 5⟩ ?_ ?_
   ·
    iterate 3 refine q1 _ ?_
    exact nR [0, 1, 2, 3, 4]
   exact And.intro rfl rfl
  ·
   replace h := iteF hc7 h
   refine NWp.condF (t := decide (i5 < (l3.length : Int))) rfl hc7 ?_
   have hh := Option.some.inj h
   subst hh
   refine NWp.norm (s0 := ⟨tab [(4, .ptr 0 0 0), (6, .ptr 1 0 0)], stab [(0, .var [vl1 [], vl0 [], .d (eL none (eL none (D.int .u16)) [])]), (1, .var [.loc 2 0 l2.length, .loc 3 0 l3.length, .loc 4 0 l4.length]), (2, .lst false (some 2) (List.map eapi_Event l2)), (3, .lst false none (List.map (D.int .u64) l3)), (4, .lst false none (List.map (eL none (D.int .u16)) l4))], 5⟩) (nr [0, 1, 2, 3, 4]) ?_
   refine NWp.exit ?_
   exact And.intro rfl rfl
 ·
  intro r' hq
  subst hq
  exact Option.some.inj h
 rintro ⟨z49, z50, z51, z52⟩ rfl
 refine NWp.opsJ ⟨tab [(4, .ptr 0 0 0), (5, vi 0)], stab [(0, .var [.loc 1 0 z49.length, .loc 2 0 z50.length, .loc 3 0 z51.length]), (1, .lst false (some 2) (List.map eapi_Event z49)), (2, .lst false none (List.map (D.int .u64) z50)), (3, .lst false none (List.map (eL none (D.int .u16)) z51))], 4⟩ ?_ ?_
 ·
  refine q1 _ ?_
  refine step (v := V.undef) (σ' := (upd (stab [(0, .var [vl1 [], vl0 [], .d (eL none (eL none (D.int .u16)) [])]), (1, .var [.loc 2 0 z49.length, .loc 3 0 z50.length, .loc 4 0 z51.length]), (2, .lst false (some 2) (List.map eapi_Event z49)), (3, .lst false none (List.map (D.int .u64) z50)), (4, .lst false none (List.map (eL none (D.int .u16)) z51))]) 0 (some (.var [.loc 2 0 z49.length, .loc 3 0 z50.length, .loc 4 0 z51.length])))) (n' := 5) rfl ?_
  refine q1 _ ?_
  exact nR [0, 2, 3, 4]
 have hh := Option.some.inj h
 subst hh
 refine NWp.ret ?_
 show FQ _ _ _ _
 exact FQ.mkT (.inr rfl) rfl (RV.agg (RV0.loc (xs := z49) (e := eapi_Event) rfl rfl (RV0.loc (xs := z50) (e := (D.int .u64)) rfl rfl (RV0.loc (xs := z51) (e := (eL none (D.int .u16))) rfl rfl trivial))) (RV.d trivial))

theorem c_ref12_leads {a0 : api_Space} {a1 : Int} {a2 : (List Int)} {a3 : (List Int)} {r : Bool} (h : ref12_leads a0 a1 a2 a3 = some r) : PCall Tryd.prog 42 [eapi_Space a0, .int .i64 a1, eL none (D.int .u16) a2, eL none (D.int .u16) a3] (.bool r) := by
 refine PCall.introN ok42 (show 4 ≤ 47 by decide) ?_
 refine NWp.norm (s0 := ⟨tab [(0, vs4 a0), (1, vi a1), (2, vl4 a2), (3, vl4 a3)], stab [], 0⟩) (nr []) ?_
 refine NWp.opsJ ⟨tab [(1, vi a1), (2, vl4 a2), (3, vl4 a3), (4, vp1 a0)], stab [], 0⟩ ?_ ?_
 ·
  iterate 2 refine q1 _ ?_
  exact nR []
 refine NWp.seq ?_
 refine NWp.opsJ ⟨tab [(1, vi a1), (2, vl4 a2), (3, vl4 a3), (4, vp1 a0), (9, vi 0)], stab [], 0⟩ ?_ ?_
 ·
  refine q1 _ ?_
  exact nR []
 obtain ⟨q17, hl, h⟩ := bindE h
 refine NWp.block ?_
 refine loop_forR (cntU (a0.Edges.length : Int)) (fun (i1 : Int) (qq : Unit) => ⟨tab [(1, vi a1), (2, vl4 a2), (3, vl4 a3), (4, vp1 a0), (9, vi i1)], stab [], 0⟩) 0 (fun (qq : Unit) => ⟨tab [], stab [], 0⟩) Low low_step (r := r) hl (by unfold Low; omega) ?_ ?_ ?_ ?_
 ·
  rintro i1 ⟨⟩ xr6 hinv4 hgo3 h
  show NWp _ _ _ _ _ ⟨tab [(1, vi a1), (2, vl4 a2), (3, vl4 a3), (4, vp1 a0), (9, vi i1)], stab [], 0⟩
  have hc5 : decide (i1 < (a0.Edges.length : Int)) = true := decide_eq_true hgo3
  refine NWp.seq ?_
  refine NWp.opsJ ⟨tab [(1, vi a1), (2, vl4 a2), (3, vl4 a3), (4, vp1 a0), (9, vi i1), (14, vi (a0.Edges.length : Int)), (15, vb (decide (i1 < (a0.Edges.length : Int))))], stab [], 0⟩ ?_ ?_
  ·
   iterate 3 refine q1 _ ?_
   refine step (v := vi (a0.Edges.length : Int)) (st_len (xs := a0.Edges) (e := eapi_Edge) rfl) ?_
   refine q1 _ ?_
   exact nR []
  refine NWp.rng 14 rfl fun hB2 => ?_
  refine NWp.condT (t := decide (i1 < (a0.Edges.length : Int))) rfl hc5 ?_
  refine NWp.skip ?_
  refine NWp.seq ?_
  refine NWp.block ?_
  obtain ⟨x7, hx7, h⟩ := bindE h
  refine NWp.opsJ ⟨tab [(1, vi a1), (2, vl4 a2), (3, vl4 a3), (4, vp1 a0), (9, vi i1), (10, .ptr 0 0 0)], stab [(0, bv0 x7)], 1⟩ ?_ ?_
  ·
   iterate 3 refine q1 _ ?_
   refine step (v := .d (.cptr (some 3) (eapi_Edge x7) 0)) (st_iaddr (xs := a0.Edges) (e := eapi_Edge) hx7 rfl rfl) ?_
   refine q1 _ ?_
   refine step (v := .ptr 0 0 0) (σ' := (upd (stab []) 0 (some (.var [vi 0, vi 0, vi 0])))) (n' := 1) rfl ?_
   refine step (v := V.undef) (σ' := (upd (upd (stab []) 0 (some (.var [vi 0, vi 0, vi 0]))) 0 (some (bv0 x7)))) (n' := 1) rfl ?_
   exact nR [0]
  obtain ⟨y14, hv, h⟩ := bindE h
  refine NWp.opsJ ⟨tab [(1, vi a1), (2, vl4 a2), (3, vl4 a3), (4, vp1 a0), (9, vi i1), (46, vb y14)], stab [], 0⟩ ?_ ?_
  ·
   iterate 5 refine q1 _ ?_
   by_cases hg8 : (x7.Rule == a1) = true
   ·
    replace hv := iteT hg8 hv
    obtain ⟨x9, hx9, hv⟩ := bindE hv
    obtain ⟨r10, hr10, hv⟩ := bindE hv
    refine qG _ hg8 ?_
    refine q1 _ ?_
    refine qG _ hg8 ?_
    refine q1 _ ?_
    refine qG _ hg8 ?_
    refine q1 _ ?_
    refine qG _ hg8 ?_
    refine q1 _ ?_
    refine qG _ hg8 ?_
    refine step (v := .d (.cptr none (eL none (D.int .u16) x9) 0)) (st_iaddr (xs := a0.States) (e := (eL none (D.int .u16))) hx9 rfl rfl) ?_
    refine qG _ hg8 ?_
    refine q1 _ ?_
    refine qG _ hg8 ?_
    refine q1 _ ?_
    refine qG _ hg8 ?_
    refine stepC (r := .bool r10) (ArgsOk.dt (ArgsOk.dt ArgsOk.nil')) (c_ref11_Same hr10) ?_
    refine step (v := vb r10) (st_pickT (b := (x7.Rule == a1)) rfl hg8 rfl) ?_
    refine q1 _ ?_
    by_cases hg11 : r10 = true
    ·
     replace hv := iteT hg11 hv
     obtain ⟨x12, hx12, hv⟩ := bindE hv
     obtain ⟨r13, hr13, hv⟩ := bindE hv
     refine qG _ hg11 ?_
     refine q1 _ ?_
     refine qG _ hg11 ?_
     refine q1 _ ?_
     refine qG _ hg11 ?_
     refine q1 _ ?_
     refine qG _ hg11 ?_
     refine q1 _ ?_
     refine qG _ hg11 ?_
     refine step (v := .d (.cptr none (eL none (D.int .u16) x12) 0)) (st_iaddr (xs := a0.States) (e := (eL none (D.int .u16))) hx12 rfl rfl) ?_
     refine qG _ hg11 ?_
     refine q1 _ ?_
     refine qG _ hg11 ?_
     refine q1 _ ?_
     refine qG _ hg11 ?_
     refine stepC (r := .bool r13) (ArgsOk.dt (ArgsOk.dt ArgsOk.nil')) (c_ref11_Same hr13) ?_
     refine step (v := vb r13) (st_pickT (b := r10) rfl hg11 rfl) ?_
     have hh := Option.some.inj hv
     subst hh
     exact nR []
    ·
     replace hv := iteF hg11 hv
     iterate 8 refine qX _ hg11 ?_
     refine step (v := vb false) (st_pickF (b := r10) rfl hg11 rfl) ?_
     have hh := Option.some.inj hv
     subst hh
     exact nR []
   ·
    replace hv := iteF hg8 hv
    iterate 8 refine qX _ hg8 ?_
    refine step (v := vb false) (st_pickF (b := (x7.Rule == a1)) rfl hg8 rfl) ?_
    refine q1 _ ?_
    iterate 8 refine qX false (by decide) ?_
    refine step (v := vb false) (st_pickF (b := false) rfl (by decide) rfl) ?_
    have hh := Option.some.inj hv
    subst hh
    exact nR []
  by_cases hc16 : y14 = true
  ·
   replace h := iteT hc16 h
   refine NWp.condT (t := y14) rfl hc16 ?_
   refine NWp.opsJ ⟨tab [(8, vb true)], stab [], 0⟩ ?_ ?_
   ·
    refine q1 _ ?_
    exact nR []
   obtain ⟨r17, kr17, hr⟩ := mapE (o := some true) (g := Br.ret) h
   subst hr
   have h := kr17
   have hh := Option.some.inj h
   subst hh
   refine NWp.ret ?_
   refine And.intro (fun hn => nomatch hn) ?_
   intro hq
   have hq := hq.symm
   subst hq
   show FQ _ _ _ _
   exact FQ.mk1 (.inr rfl) (res_t (v := vb true) rfl rfl) (RV.d trivial)
  ·
   replace h := iteF hc16 h
   refine NWp.condF (t := y14) rfl hc16 ?_
   refine NWp.skip ?_
   have hh := Option.some.inj h
   subst hh
   refine NWp.opsE ⟨tab [(1, vi a1), (2, vl4 a2), (3, vl4 a3), (4, vp1 a0), (9, vi (i1 + 1))], stab [], 0⟩ ?_ ?_
   ·
    refine q1 _ ?_
    refine step (v := vi (i1 + 1)) (st_inc (inc_ok hinv4 hgo3 hB2) rfl rfl) ?_
    refine q1 _ ?_
    exact nR []
   exact And.intro rfl rfl
 ·
  rintro i1 ⟨⟩ hinv4 hgo3
  show NWp _ _ _ _ _ ⟨tab [(1, vi a1), (2, vl4 a2), (3, vl4 a3), (4, vp1 a0), (9, vi i1)], stab [], 0⟩
  have hc5 : ¬ (decide (i1 < (a0.Edges.length : Int)) = true) := fun hq => hgo3 (of_decide_eq_true hq)
  refine NWp.seq ?_
  refine NWp.opsJ ⟨tab [(1, vi a1), (2, vl4 a2), (3, vl4 a3), (4, vp1 a0), (9, vi i1), (15, vb (decide (i1 < (a0.Edges.length : Int))))], stab [], 0⟩ ?_ ?_
  ·
   iterate 3 refine q1 _ ?_
   refine step (v := vi (a0.Edges.length : Int)) (st_len (xs := a0.Edges) (e := eapi_Edge) rfl) ?_
   refine q1 _ ?_
   exact nR []
  refine NWp.condF (t := decide (i1 < (a0.Edges.length : Int))) rfl hc5 ?_
  refine NWp.norm (s0 := ⟨tab [], stab [], 0⟩) (nr []) ?_
  refine NWp.exit ?_
  exact And.intro rfl rfl
 ·
  intro r' hq
  subst hq
  exact Option.some.inj h
 rintro ⟨⟩ rfl
 refine NWp.opsJ ⟨tab [(8, vb false)], stab [], 0⟩ ?_ ?_
 ·
  refine q1 _ ?_
  exact nR []
 have hh := Option.some.inj h
 subst hh
 refine NWp.ret ?_
 show FQ _ _ _ _
 exact FQ.mk1 (.inr rfl) (res_t (v := vb false) rfl rfl) (RV.d trivial)

theorem c_ref12_Consistent {a0 : api_Nes} {a1 : Int} {r : Bool} (h : ref12_Consistent a0 a1 = some r) : PCall Tryd.prog 43 [eapi_Nes a0, .int .u64 a1] (.bool r) := by
 refine PCall.introN ok43 (show 2 ≤ 22 by decide) ?_
 refine NWp.norm (s0 := ⟨tab [(0, vs1 a0), (1, .d (.int .u64 a1))], stab [], 0⟩) (nr []) ?_
 refine NWp.opsJ ⟨tab [(1, .d (.int .u64 a1)), (2, vp0 a0)], stab [], 0⟩ ?_ ?_
 ·
  iterate 2 refine q1 _ ?_
  exact nR []
 refine NWp.seq ?_
 refine NWp.opsJ ⟨tab [(1, .d (.int .u64 a1)), (2, vp0 a0), (5, vi 0)], stab [], 0⟩ ?_ ?_
 ·
  refine q1 _ ?_
  exact nR []
 obtain ⟨q9, hl, h⟩ := bindE h
 refine NWp.block ?_
 refine loop_forR (cntU (a0.Sets.length : Int)) (fun (i1 : Int) (qq : Unit) => ⟨tab [(1, .d (.int .u64 a1)), (2, vp0 a0), (5, vi i1)], stab [], 0⟩) 0 (fun (qq : Unit) => ⟨tab [], stab [], 0⟩) Low low_step (r := r) hl (by unfold Low; omega) ?_ ?_ ?_ ?_
 ·
  rintro i1 ⟨⟩ xr6 hinv4 hgo3 h
  show NWp _ _ _ _ _ ⟨tab [(1, .d (.int .u64 a1)), (2, vp0 a0), (5, vi i1)], stab [], 0⟩
  have hc5 : decide (i1 < (a0.Sets.length : Int)) = true := decide_eq_true hgo3
  refine NWp.seq ?_
  refine NWp.opsJ ⟨tab [(1, .d (.int .u64 a1)), (2, vp0 a0), (5, vi i1), (9, vi (a0.Sets.length : Int)), (10, vb (decide (i1 < (a0.Sets.length : Int))))], stab [], 0⟩ ?_ ?_
  ·
   iterate 3 refine q1 _ ?_
   refine step (v := vi (a0.Sets.length : Int)) (st_len (xs := a0.Sets) (e := (D.int .u64)) rfl) ?_
   refine q1 _ ?_
   exact nR []
  refine NWp.rng 9 rfl fun hB2 => ?_
  refine NWp.condT (t := decide (i1 < (a0.Sets.length : Int))) rfl hc5 ?_
  refine NWp.skip ?_
  refine NWp.seq ?_
  refine NWp.block ?_
  obtain ⟨x7, hx7, h⟩ := bindE h
  refine NWp.opsJ ⟨tab [(1, .d (.int .u64 a1)), (2, vp0 a0), (5, vi i1), (21, vb ((andI .u64 a1 x7) == a1))], stab [], 0⟩ ?_ ?_
  ·
   iterate 4 refine q1 _ ?_
   refine step (v := .d (.cptr none (.int .u64 x7) 0)) (st_iaddr (xs := a0.Sets) (e := (D.int .u64)) hx7 rfl rfl) ?_
   iterate 4 refine q1 _ ?_
   exact nR []
  by_cases hc8 : ((andI .u64 a1 x7) == a1) = true
  ·
   replace h := iteT hc8 h
   refine NWp.condT (t := ((andI .u64 a1 x7) == a1)) rfl hc8 ?_
   refine NWp.opsJ ⟨tab [(4, vb true)], stab [], 0⟩ ?_ ?_
   ·
    refine q1 _ ?_
    exact nR []
   obtain ⟨r9, kr9, hr⟩ := mapE (o := some true) (g := Br.ret) h
   subst hr
   have h := kr9
   have hh := Option.some.inj h
   subst hh
   refine NWp.ret ?_
   refine And.intro (fun hn => nomatch hn) ?_
   intro hq
   have hq := hq.symm
   subst hq
   show FQ _ _ _ _
   exact FQ.mk1 (.inr rfl) (res_t (v := vb true) rfl rfl) (RV.d trivial)
  ·
   replace h := iteF hc8 h
   refine NWp.condF (t := ((andI .u64 a1 x7) == a1)) rfl hc8 ?_
   refine NWp.skip ?_
   have hh := Option.some.inj h
   subst hh
   refine NWp.opsE ⟨tab [(1, .d (.int .u64 a1)), (2, vp0 a0), (5, vi (i1 + 1))], stab [], 0⟩ ?_ ?_
   ·
    refine q1 _ ?_
    refine step (v := vi (i1 + 1)) (st_inc (inc_ok hinv4 hgo3 hB2) rfl rfl) ?_
    refine q1 _ ?_
    exact nR []
   exact And.intro rfl rfl
 ·
  rintro i1 ⟨⟩ hinv4 hgo3
  show NWp _ _ _ _ _ ⟨tab [(1, .d (.int .u64 a1)), (2, vp0 a0), (5, vi i1)], stab [], 0⟩
  have hc5 : ¬ (decide (i1 < (a0.Sets.length : Int)) = true) := fun hq => hgo3 (of_decide_eq_true hq)
  refine NWp.seq ?_
  refine NWp.opsJ ⟨tab [(1, .d (.int .u64 a1)), (2, vp0 a0), (5, vi i1), (10, vb (decide (i1 < (a0.Sets.length : Int))))], stab [], 0⟩ ?_ ?_
  ·
   iterate 3 refine q1 _ ?_
   refine step (v := vi (a0.Sets.length : Int)) (st_len (xs := a0.Sets) (e := (D.int .u64)) rfl) ?_
   refine q1 _ ?_
   exact nR []
  refine NWp.condF (t := decide (i1 < (a0.Sets.length : Int))) rfl hc5 ?_
  refine NWp.norm (s0 := ⟨tab [], stab [], 0⟩) (nr []) ?_
  refine NWp.exit ?_
  exact And.intro rfl rfl
 ·
  intro r' hq
  subst hq
  exact Option.some.inj h
 rintro ⟨⟩ rfl
 refine NWp.opsJ ⟨tab [(4, vb false)], stab [], 0⟩ ?_ ?_
 ·
  refine q1 _ ?_
  exact nR []
 have hh := Option.some.inj h
 subst hh
 refine NWp.ret ?_
 show FQ _ _ _ _
 exact FQ.mk1 (.inr rfl) (res_t (v := vb false) rfl rfl) (RV.d trivial)

theorem c_ref12_family {a0 : api_Nes} {a1 : api_Space} {r : Bool} (h : ref12_family a0 a1 = some r) : PCall Tryd.prog 24 [eapi_Nes a0, eapi_Space a1] (.bool r) := by
 refine PCall.introN ok24 (show 2 ≤ 86 by decide) ?_
 refine NWp.norm (s0 := ⟨tab [(0, vs1 a0), (1, vs4 a1)], stab [], 0⟩) (nr []) ?_
 refine NWp.opsJ ⟨tab [(2, vp0 a0), (3, vp1 a1)], stab [], 0⟩ ?_ ?_
 ·
  iterate 3 refine q1 _ ?_
  exact nR []
 refine NWp.seq ?_
 refine NWp.opsJ ⟨tab [(2, vp0 a0), (3, vp1 a1), (5, vi 0)], stab [], 0⟩ ?_ ?_
 ·
  refine q1 _ ?_
  exact nR []
 obtain ⟨q41, hl, h⟩ := bindE h
 refine NWp.block ?_
 refine loop_forR (cntU (a0.Sets.length : Int)) (fun (i1 : Int) (qq : Unit) => ⟨tab [(2, vp0 a0), (3, vp1 a1), (5, vi i1)], stab [], 0⟩) 0 (fun (qq : Unit) => ⟨tab [], stab [], 0⟩) Low low_step (r := r) hl (by unfold Low; omega) ?_ ?_ ?_ ?_
 ·
  rintro i1 ⟨⟩ xr6 hinv4 hgo3 h
  show NWp _ _ _ _ _ ⟨tab [(2, vp0 a0), (3, vp1 a1), (5, vi i1)], stab [], 0⟩
  have hc5 : decide (i1 < (a0.Sets.length : Int)) = true := decide_eq_true hgo3
  refine NWp.seq ?_
  refine NWp.opsJ ⟨tab [(2, vp0 a0), (3, vp1 a1), (5, vi i1), (13, vi (a0.Sets.length : Int)), (14, vb (decide (i1 < (a0.Sets.length : Int))))], stab [], 0⟩ ?_ ?_
  ·
   iterate 3 refine q1 _ ?_
   refine step (v := vi (a0.Sets.length : Int)) (st_len (xs := a0.Sets) (e := (D.int .u64)) rfl) ?_
   refine q1 _ ?_
   exact nR []
  refine NWp.rng 13 rfl fun hB2 => ?_
  refine NWp.condT (t := decide (i1 < (a0.Sets.length : Int))) rfl hc5 ?_
  refine NWp.skip ?_
  refine NWp.seq ?_
  refine NWp.block ?_
  refine NWp.seq ?_
  refine NWp.opsJ ⟨tab [(2, vp0 a0), (3, vp1 a1), (5, vi i1), (6, vi 0)], stab [], 0⟩ ?_ ?_
  ·
   refine q1 _ ?_
   exact nR []
  obtain ⟨q40, hl, h⟩ := bindE h
  refine NWp.block ?_
  refine loop_forR (cntU (a0.Events.length : Int)) (fun (i7 : Int) (qq : Unit) => ⟨tab [(2, vp0 a0), (3, vp1 a1), (5, vi i1), (6, vi i7)], stab [], 0⟩) 2 (fun (qq : Unit) => ⟨tab [(2, vp0 a0), (3, vp1 a1), (5, vi i1)], stab [], 0⟩) Low low_step (r := xr6) hl (by unfold Low; omega) ?_ ?_ ?_ ?_
  ·
   rintro i7 ⟨⟩ xr12 hinv10 hgo9 h
   show NWp _ _ _ _ _ ⟨tab [(2, vp0 a0), (3, vp1 a1), (5, vi i1), (6, vi i7)], stab [], 0⟩
   have hc11 : decide (i7 < (a0.Events.length : Int)) = true := decide_eq_true hgo9
   refine NWp.seq ?_
   refine NWp.opsJ ⟨tab [(2, vp0 a0), (3, vp1 a1), (5, vi i1), (6, vi i7), (20, vi (a0.Events.length : Int)), (21, vb (decide (i7 < (a0.Events.length : Int))))], stab [], 0⟩ ?_ ?_
   ·
    iterate 3 refine q1 _ ?_
    refine step (v := vi (a0.Events.length : Int)) (st_len (xs := a0.Events) (e := eapi_Event) rfl) ?_
    refine q1 _ ?_
    exact nR []
   refine NWp.rng 20 rfl fun hB8 => ?_
   refine NWp.condT (t := decide (i7 < (a0.Events.length : Int))) rfl hc11 ?_
   refine NWp.skip ?_
   refine NWp.seq ?_
   refine NWp.block ?_
   obtain ⟨x13, hx13, h⟩ := bindE h
   obtain ⟨r14, hr14, h⟩ := bindE h
   obtain ⟨r15, hr15, h⟩ := bindE h
   refine NWp.opsJ ⟨tab [(2, vp0 a0), (3, vp1 a1), (5, vi i1), (6, vi i7), (7, vi r15)], stab [], 0⟩ ?_ ?_
   ·
    iterate 4 refine q1 _ ?_
    refine step (v := .d (.cptr none (.int .u64 x13) 0)) (st_iaddr (xs := a0.Sets) (e := (D.int .u64)) hx13 rfl rfl) ?_
    iterate 2 refine q1 _ ?_
    refine stepC (r := .int .u64 r14) (ArgsOk.dt (ArgsOk.dt ArgsOk.nil')) (c_ref02_With hr14) ?_
    refine stepC (r := .int .i64 r15) (ArgsOk.dt (ArgsOk.dt ArgsOk.nil')) (c_ref12_Tag hr15) ?_
    refine q1 _ ?_
    exact nR []
   obtain ⟨y22, hv, h⟩ := bindE h
   refine NWp.opsJ ⟨tab [(2, vp0 a0), (3, vp1 a1), (5, vi i1), (6, vi i7), (60, vb y22)], stab [], 0⟩ ?_ ?_
   ·
    iterate 3 refine q1 _ ?_
    by_cases hg16 : decide (r15 ≥ 0) = true
    ·
     replace hv := iteT hg16 hv
     refine qG _ hg16 ?_
     refine q1 _ ?_
     refine qG _ hg16 ?_
     refine q1 _ ?_
     refine qG _ hg16 ?_
     refine q1 _ ?_
     refine step (v := vb (r15 != i1)) (st_pickT (b := decide (r15 ≥ 0)) rfl hg16 rfl) ?_
     refine q1 _ ?_
     by_cases hg17 : (r15 != i1) = true
     ·
      replace hv := iteT hg17 hv
      obtain ⟨x18, hx18, hv⟩ := bindE hv
      obtain ⟨x19, hx19, hv⟩ := bindE hv
      obtain ⟨x20, hx20, hv⟩ := bindE hv
      obtain ⟨r21, hr21, hv⟩ := bindE hv
      refine qG _ hg17 ?_
      refine q1 _ ?_
      refine qG _ hg17 ?_
      refine q1 _ ?_
      refine qG _ hg17 ?_
      refine q1 _ ?_
      refine qG _ hg17 ?_
      refine q1 _ ?_
      refine qG _ hg17 ?_
      refine step (v := vp5 x18) (st_iaddr (xs := a0.Events) (e := eapi_Event) hx18 rfl rfl) ?_
      refine qG _ hg17 ?_
      refine q1 _ ?_
      refine qG _ hg17 ?_
      refine q1 _ ?_
      refine qG _ hg17 ?_
      refine q1 _ ?_
      refine qG _ hg17 ?_
      refine q1 _ ?_
      refine qG _ hg17 ?_
      refine q1 _ ?_
      refine qG _ hg17 ?_
      refine step (v := .d (.cptr none (eL none (D.int .u16) x19) 0)) (st_iaddr (xs := a0.States) (e := (eL none (D.int .u16))) hx19 rfl rfl) ?_
      refine qG _ hg17 ?_
      refine q1 _ ?_
      refine qG _ hg17 ?_
      refine q1 _ ?_
      refine qG _ hg17 ?_
      refine q1 _ ?_
      refine qG _ hg17 ?_
      refine q1 _ ?_
      refine qG _ hg17 ?_
      refine step (v := .d (.cptr none (eL none (D.int .u16) x20) 0)) (st_iaddr (xs := a0.States) (e := (eL none (D.int .u16))) hx20 rfl rfl) ?_
      refine qG _ hg17 ?_
      refine q1 _ ?_
      refine qG _ hg17 ?_
      refine stepC (r := .bool r21) (ArgsOk.dt (ArgsOk.dt (ArgsOk.dt (ArgsOk.dt ArgsOk.nil')))) (c_ref12_leads hr21) ?_
      refine qG _ hg17 ?_
      refine q1 _ ?_
      refine step (v := vb (!r21)) (st_pickT (b := (r15 != i1)) rfl hg17 rfl) ?_
      have hh := Option.some.inj hv
      subst hh
      exact nR []
     ·
      replace hv := iteF hg17 hv
      iterate 19 refine qX _ hg17 ?_
      refine step (v := vb false) (st_pickF (b := (r15 != i1)) rfl hg17 rfl) ?_
      have hh := Option.some.inj hv
      subst hh
      exact nR []
    ·
     replace hv := iteF hg16 hv
     iterate 3 refine qX _ hg16 ?_
     refine step (v := vb false) (st_pickF (b := decide (r15 ≥ 0)) rfl hg16 rfl) ?_
     refine q1 _ ?_
     iterate 19 refine qX false (by decide) ?_
     refine step (v := vb false) (st_pickF (b := false) rfl (by decide) rfl) ?_
     have hh := Option.some.inj hv
     subst hh
     exact nR []
   by_cases hc24 : y22 = true
   ·
    replace h := iteT hc24 h
    refine NWp.condT (t := y22) rfl hc24 ?_
    refine NWp.opsJ ⟨tab [(4, vb false)], stab [], 0⟩ ?_ ?_
    ·
     refine q1 _ ?_
     exact nR []
    obtain ⟨r25, kr25, hr⟩ := mapE (o := some (Br.ret false)) (g := Br.ret) h
    subst hr
    have h := kr25
    obtain ⟨r26, kr26, hr⟩ := mapE (o := some false) (g := Br.ret) h
    subst hr
    have h := kr26
    have hh := Option.some.inj h
    subst hh
    refine NWp.ret ?_
    refine And.intro (fun hn => nomatch hn) ?_
    intro hq
    have hq := hq.symm
    subst hq
    refine And.intro (fun hn => nomatch hn) ?_
    intro hq
    have hq := hq.symm
    subst hq
    show FQ _ _ _ _
    exact FQ.mk1 (.inr rfl) (res_t (v := vb false) rfl rfl) (RV.d trivial)
   ·
    replace h := iteF hc24 h
    refine NWp.condF (t := y22) rfl hc24 ?_
    refine NWp.skip ?_
    have hh := Option.some.inj h
    subst hh
    refine NWp.opsE ⟨tab [(2, vp0 a0), (3, vp1 a1), (5, vi i1), (6, vi (i7 + 1))], stab [], 0⟩ ?_ ?_
    ·
     refine q1 _ ?_
     refine step (v := vi (i7 + 1)) (st_inc (inc_ok hinv10 hgo9 hB8) rfl rfl) ?_
     refine q1 _ ?_
     exact nR []
    exact And.intro rfl rfl
  ·
   rintro i7 ⟨⟩ hinv10 hgo9
   show NWp _ _ _ _ _ ⟨tab [(2, vp0 a0), (3, vp1 a1), (5, vi i1), (6, vi i7)], stab [], 0⟩
   have hc11 : ¬ (decide (i7 < (a0.Events.length : Int)) = true) := fun hq => hgo9 (of_decide_eq_true hq)
   refine NWp.seq ?_
   refine NWp.opsJ ⟨tab [(2, vp0 a0), (3, vp1 a1), (5, vi i1), (6, vi i7), (21, vb (decide (i7 < (a0.Events.length : Int))))], stab [], 0⟩ ?_ ?_
   ·
    iterate 3 refine q1 _ ?_
    refine step (v := vi (a0.Events.length : Int)) (st_len (xs := a0.Events) (e := eapi_Event) rfl) ?_
    refine q1 _ ?_
    exact nR []
   refine NWp.condF (t := decide (i7 < (a0.Events.length : Int))) rfl hc11 ?_
   refine NWp.norm (s0 := ⟨tab [(2, vp0 a0), (3, vp1 a1), (5, vi i1)], stab [], 0⟩) (nr []) ?_
   refine NWp.exit ?_
   exact And.intro rfl rfl
  ·
   intro r' hq
   subst hq
   exact Option.some.inj h
  rintro ⟨⟩ rfl
  refine NWp.opsJ ⟨tab [(2, vp0 a0), (3, vp1 a1), (5, vi i1), (8, vi 0)], stab [], 0⟩ ?_ ?_
  ·
   refine q1 _ ?_
   exact nR []
  obtain ⟨q39, hl, h⟩ := bindE h
  refine NWp.block ?_
  refine loop_forR (cntU i1) (fun (i25 : Int) (qq : Unit) => ⟨tab [(2, vp0 a0), (3, vp1 a1), (5, vi i1), (8, vi i25)], stab [], 0⟩) 4 (fun (qq : Unit) => ⟨tab [(2, vp0 a0), (3, vp1 a1), (5, vi i1)], stab [], 0⟩) Low low_step (r := xr6) hl (by unfold Low; omega) ?_ ?_ ?_ ?_
  ·
   rintro i25 ⟨⟩ xr30 hinv28 hgo27 h
   show NWp _ _ _ _ _ ⟨tab [(2, vp0 a0), (3, vp1 a1), (5, vi i1), (8, vi i25)], stab [], 0⟩
   have hc29 : decide (i25 < i1) = true := decide_eq_true hgo27
   refine NWp.seq ?_
   refine NWp.opsJ ⟨tab [(2, vp0 a0), (3, vp1 a1), (5, vi i1), (8, vi i25), (62, vi i1), (63, vb (decide (i25 < i1)))], stab [], 0⟩ ?_ ?_
   ·
    iterate 3 refine q1 _ ?_
    exact nR []
   refine NWp.rng 62 rfl fun hB26 => ?_
   refine NWp.condT (t := decide (i25 < i1)) rfl hc29 ?_
   refine NWp.skip ?_
   refine NWp.seq ?_
   refine NWp.block ?_
   obtain ⟨x31, hx31, h⟩ := bindE h
   obtain ⟨x32, hx32, h⟩ := bindE h
   refine NWp.opsJ ⟨tab [(2, vp0 a0), (3, vp1 a1), (5, vi i1), (8, vi i25), (9, .d (.int .u64 (orI .u64 x31 x32)))], stab [], 0⟩ ?_ ?_
   ·
    iterate 3 refine q1 _ ?_
    refine step (v := .d (.cptr none (.int .u64 x31) 0)) (st_iaddr (xs := a0.Sets) (e := (D.int .u64)) hx31 rfl rfl) ?_
    iterate 4 refine q1 _ ?_
    refine step (v := .d (.cptr none (.int .u64 x32) 0)) (st_iaddr (xs := a0.Sets) (e := (D.int .u64)) hx32 rfl rfl) ?_
    iterate 3 refine q1 _ ?_
    exact nR []
   obtain ⟨r33, hr33, h⟩ := bindE h
   obtain ⟨y36, hv, h⟩ := bindE h
   refine NWp.opsJ ⟨tab [(2, vp0 a0), (3, vp1 a1), (5, vi i1), (8, vi i25), (85, vb y36)], stab [], 0⟩ ?_ ?_
   ·
    iterate 2 refine q1 _ ?_
    refine stepC (r := .int .i64 r33) (ArgsOk.dt (ArgsOk.dt ArgsOk.nil')) (c_ref12_Tag hr33) ?_
    iterate 2 refine q1 _ ?_
    by_cases hg34 : decide (r33 < 0) = true
    ·
     replace hv := iteT hg34 hv
     obtain ⟨r35, hr35, hv⟩ := bindE hv
     refine qG _ hg34 ?_
     refine q1 _ ?_
     refine qG _ hg34 ?_
     refine q1 _ ?_
     refine qG _ hg34 ?_
     refine stepC (r := .bool r35) (ArgsOk.dt (ArgsOk.dt ArgsOk.nil')) (c_ref12_Consistent hr35) ?_
     refine step (v := vb r35) (st_pickT (b := decide (r33 < 0)) rfl hg34 rfl) ?_
     have hh := Option.some.inj hv
     subst hh
     exact nR []
    ·
     replace hv := iteF hg34 hv
     iterate 3 refine qX _ hg34 ?_
     refine step (v := vb false) (st_pickF (b := decide (r33 < 0)) rfl hg34 rfl) ?_
     have hh := Option.some.inj hv
     subst hh
     exact nR []
   by_cases hc38 : y36 = true
   ·
    replace h := iteT hc38 h
    refine NWp.condT (t := y36) rfl hc38 ?_
    refine NWp.opsJ ⟨tab [(4, vb false)], stab [], 0⟩ ?_ ?_
    ·
     refine q1 _ ?_
     exact nR []
    obtain ⟨r39, kr39, hr⟩ := mapE (o := some (Br.ret false)) (g := Br.ret) h
    subst hr
    have h := kr39
    obtain ⟨r40, kr40, hr⟩ := mapE (o := some false) (g := Br.ret) h
    subst hr
    have h := kr40
    have hh := Option.some.inj h
    subst hh
    refine NWp.ret ?_
    refine And.intro (fun hn => nomatch hn) ?_
    intro hq
    have hq := hq.symm
    subst hq
    refine And.intro (fun hn => nomatch hn) ?_
    intro hq
    have hq := hq.symm
    subst hq
    show FQ _ _ _ _
    exact FQ.mk1 (.inr rfl) (res_t (v := vb false) rfl rfl) (RV.d trivial)
   ·
    replace h := iteF hc38 h
    refine NWp.condF (t := y36) rfl hc38 ?_
    refine NWp.skip ?_
    have hh := Option.some.inj h
    subst hh
    refine NWp.opsE ⟨tab [(2, vp0 a0), (3, vp1 a1), (5, vi i1), (8, vi (i25 + 1))], stab [], 0⟩ ?_ ?_
    ·
     refine q1 _ ?_
     refine step (v := vi (i25 + 1)) (st_inc (inc_ok hinv28 hgo27 hB26) rfl rfl) ?_
     refine q1 _ ?_
     exact nR []
    exact And.intro rfl rfl
  ·
   rintro i25 ⟨⟩ hinv28 hgo27
   show NWp _ _ _ _ _ ⟨tab [(2, vp0 a0), (3, vp1 a1), (5, vi i1), (8, vi i25)], stab [], 0⟩
   have hc29 : ¬ (decide (i25 < i1) = true) := fun hq => hgo27 (of_decide_eq_true hq)
   refine NWp.seq ?_
   refine NWp.opsJ ⟨tab [(2, vp0 a0), (3, vp1 a1), (5, vi i1), (8, vi i25), (63, vb (decide (i25 < i1)))], stab [], 0⟩ ?_ ?_
   ·
    iterate 3 refine q1 _ ?_
    exact nR []
   refine NWp.condF (t := decide (i25 < i1)) rfl hc29 ?_
   refine NWp.norm (s0 := ⟨tab [(2, vp0 a0), (3, vp1 a1), (5, vi i1)], stab [], 0⟩) (nr []) ?_
   refine NWp.exit ?_
   exact And.intro rfl rfl
  ·
   intro r' hq
   subst hq
   exact Option.some.inj h
  rintro ⟨⟩ rfl
  have hh := Option.some.inj h
  subst hh
  refine NWp.opsE ⟨tab [(2, vp0 a0), (3, vp1 a1), (5, vi (i1 + 1))], stab [], 0⟩ ?_ ?_
  ·
   refine q1 _ ?_
   refine step (v := vi (i1 + 1)) (st_inc (inc_ok hinv4 hgo3 hB2) rfl rfl) ?_
   refine q1 _ ?_
   exact nR []
  exact And.intro rfl rfl
 ·
  rintro i1 ⟨⟩ hinv4 hgo3
  show NWp _ _ _ _ _ ⟨tab [(2, vp0 a0), (3, vp1 a1), (5, vi i1)], stab [], 0⟩
  have hc5 : ¬ (decide (i1 < (a0.Sets.length : Int)) = true) := fun hq => hgo3 (of_decide_eq_true hq)
  refine NWp.seq ?_
  refine NWp.opsJ ⟨tab [(2, vp0 a0), (3, vp1 a1), (5, vi i1), (14, vb (decide (i1 < (a0.Sets.length : Int))))], stab [], 0⟩ ?_ ?_
  ·
   iterate 3 refine q1 _ ?_
   refine step (v := vi (a0.Sets.length : Int)) (st_len (xs := a0.Sets) (e := (D.int .u64)) rfl) ?_
   refine q1 _ ?_
   exact nR []
  refine NWp.condF (t := decide (i1 < (a0.Sets.length : Int))) rfl hc5 ?_
  refine NWp.norm (s0 := ⟨tab [], stab [], 0⟩) (nr []) ?_
  refine NWp.exit ?_
  exact And.intro rfl rfl
 ·
  intro r' hq
  subst hq
  exact Option.some.inj h
 rintro ⟨⟩ rfl
 refine NWp.opsJ ⟨tab [(4, vb true)], stab [], 0⟩ ?_ ?_
 ·
  refine q1 _ ?_
  exact nR []
 have hh := Option.some.inj h
 subst hh
 refine NWp.ret ?_
 show FQ _ _ _ _
 exact FQ.mk1 (.inr rfl) (res_t (v := vb true) rfl rfl) (RV.d trivial)

theorem c_ref12_Switch {a0 : api_Program} {a1 : api_Nes} {a2 : Int} {r : Int} (h : ref12_Switch a0 a1 a2 = some r) : PCall Tryd.prog 52 [eapi_Program a0, eapi_Nes a1, .int .i64 a2] (.int .i64 r) := by
 refine PCall.introN ok52 (show 3 ≤ 68 by decide) ?_
 refine NWp.norm (s0 := ⟨tab [(0, vs2 a0), (1, vs1 a1), (2, vi a2)], stab [], 0⟩) (nr []) ?_
 refine NWp.opsJ ⟨tab [(2, vi a2), (3, vp2 a0), (4, vp0 a1)], stab [], 0⟩ ?_ ?_
 ·
  iterate 3 refine q1 _ ?_
  exact nR []
 refine NWp.seq ?_
 obtain ⟨y5, hv, h⟩ := bindE h
 refine NWp.opsJ ⟨tab [(2, vi a2), (3, vp2 a0), (4, vp0 a1), (38, vb y5)], stab [], 0⟩ ?_ ?_
 ·
  iterate 3 refine q1 _ ?_
  by_cases hg1 : decide (a2 < 0) = true
  ·
   replace hv := iteT hg1 hv
   iterate 5 refine qX (decide (a2 < 0)) (by rw [hg1]; decide) ?_
   refine step (v := vb true) (st_pickT (b := decide (a2 < 0)) rfl hg1 rfl) ?_
   refine q1 _ ?_
   iterate 7 refine qX true (by decide) ?_
   refine step (v := vb true) (st_pickT (b := true) rfl rfl rfl) ?_
   refine q1 _ ?_
   iterate 10 refine qX true (by decide) ?_
   refine step (v := vb true) (st_pickT (b := true) rfl rfl rfl) ?_
   have hh := Option.some.inj hv
   subst hh
   exact nR []
  ·
   replace hv := iteF hg1 hv
   refine qG (decide (a2 < 0)) (Bool.eq_false_iff.2 hg1) ?_
   refine q1 _ ?_
   refine qG (decide (a2 < 0)) (Bool.eq_false_iff.2 hg1) ?_
   refine q1 _ ?_
   refine qG (decide (a2 < 0)) (Bool.eq_false_iff.2 hg1) ?_
   refine q1 _ ?_
   refine qG (decide (a2 < 0)) (Bool.eq_false_iff.2 hg1) ?_
   refine step (v := vi (a1.Events.length : Int)) (st_len (xs := a1.Events) (e := eapi_Event) rfl) ?_
   refine qG (decide (a2 < 0)) (Bool.eq_false_iff.2 hg1) ?_
   refine q1 _ ?_
   refine step (v := vb (decide (a2 ≥ (a1.Events.length : Int)))) (st_pickF (b := decide (a2 < 0)) rfl hg1 rfl) ?_
   refine q1 _ ?_
   by_cases hg2 : decide (a2 ≥ (a1.Events.length : Int)) = true
   ·
    replace hv := iteT hg2 hv
    iterate 7 refine qX (decide (a2 ≥ (a1.Events.length : Int))) (by rw [hg2]; decide) ?_
    refine step (v := vb true) (st_pickT (b := decide (a2 ≥ (a1.Events.length : Int))) rfl hg2 rfl) ?_
    refine q1 _ ?_
    iterate 10 refine qX true (by decide) ?_
    refine step (v := vb true) (st_pickT (b := true) rfl rfl rfl) ?_
    have hh := Option.some.inj hv
    subst hh
    exact nR []
   ·
    replace hv := iteF hg2 hv
    obtain ⟨x3, hx3, hv⟩ := bindE hv
    refine qG (decide (a2 ≥ (a1.Events.length : Int))) (Bool.eq_false_iff.2 hg2) ?_
    refine q1 _ ?_
    refine qG (decide (a2 ≥ (a1.Events.length : Int))) (Bool.eq_false_iff.2 hg2) ?_
    refine q1 _ ?_
    refine qG (decide (a2 ≥ (a1.Events.length : Int))) (Bool.eq_false_iff.2 hg2) ?_
    refine q1 _ ?_
    refine qG (decide (a2 ≥ (a1.Events.length : Int))) (Bool.eq_false_iff.2 hg2) ?_
    refine step (v := vp5 x3) (st_iaddr (xs := a1.Events) (e := eapi_Event) hx3 rfl rfl) ?_
    refine qG (decide (a2 ≥ (a1.Events.length : Int))) (Bool.eq_false_iff.2 hg2) ?_
    refine q1 _ ?_
    refine qG (decide (a2 ≥ (a1.Events.length : Int))) (Bool.eq_false_iff.2 hg2) ?_
    refine q1 _ ?_
    refine qG (decide (a2 ≥ (a1.Events.length : Int))) (Bool.eq_false_iff.2 hg2) ?_
    refine q1 _ ?_
    refine step (v := vb (decide (x3.Rule < 0))) (st_pickF (b := decide (a2 ≥ (a1.Events.length : Int))) rfl hg2 rfl) ?_
    refine q1 _ ?_
    by_cases hg4 : decide (x3.Rule < 0) = true
    ·
     replace hv := iteT hg4 hv
     iterate 10 refine qX (decide (x3.Rule < 0)) (by rw [hg4]; decide) ?_
     refine step (v := vb true) (st_pickT (b := decide (x3.Rule < 0)) rfl hg4 rfl) ?_
     have hh := Option.some.inj hv
     subst hh
     exact nR []
    ·
     replace hv := iteF hg4 hv
     refine qG (decide (x3.Rule < 0)) (Bool.eq_false_iff.2 hg4) ?_
     refine q1 _ ?_
     refine qG (decide (x3.Rule < 0)) (Bool.eq_false_iff.2 hg4) ?_
     refine q1 _ ?_
     refine qG (decide (x3.Rule < 0)) (Bool.eq_false_iff.2 hg4) ?_
     refine q1 _ ?_
     refine qG (decide (x3.Rule < 0)) (Bool.eq_false_iff.2 hg4) ?_
     refine step (v := vp5 x3) (st_iaddr (xs := a1.Events) (e := eapi_Event) hx3 rfl rfl) ?_
     refine qG (decide (x3.Rule < 0)) (Bool.eq_false_iff.2 hg4) ?_
     refine q1 _ ?_
     refine qG (decide (x3.Rule < 0)) (Bool.eq_false_iff.2 hg4) ?_
     refine q1 _ ?_
     refine qG (decide (x3.Rule < 0)) (Bool.eq_false_iff.2 hg4) ?_
     refine q1 _ ?_
     refine qG (decide (x3.Rule < 0)) (Bool.eq_false_iff.2 hg4) ?_
     refine q1 _ ?_
     refine qG (decide (x3.Rule < 0)) (Bool.eq_false_iff.2 hg4) ?_
     refine step (v := vi (a0.Rules.length : Int)) (st_len (xs := a0.Rules) (e := eapi_Rule) rfl) ?_
     refine qG (decide (x3.Rule < 0)) (Bool.eq_false_iff.2 hg4) ?_
     refine q1 _ ?_
     refine step (v := vb (decide (x3.Rule ≥ (a0.Rules.length : Int)))) (st_pickF (b := decide (x3.Rule < 0)) rfl hg4 rfl) ?_
     have hh := Option.some.inj hv
     subst hh
     exact nR []
 by_cases hc7 : y5 = true
 ·
  replace h := iteT hc7 h
  refine NWp.condT (t := y5) rfl hc7 ?_
  refine NWp.opsJ ⟨tab [(6, vi (-1))], stab [], 0⟩ ?_ ?_
  ·
   refine q1 _ ?_
   exact nR []
  have hh := Option.some.inj h
  subst hh
  refine NWp.ret ?_
  show FQ _ _ _ _
  exact FQ.mk1 (.inr rfl) (res_t (v := vi (-1)) rfl rfl) (RV.d trivial)
 ·
  replace h := iteF hc7 h
  refine NWp.condF (t := y5) rfl hc7 ?_
  refine NWp.skip ?_
  obtain ⟨x8, hx8, h⟩ := bindE h
  obtain ⟨x9, hx9, h⟩ := bindE h
  refine NWp.opsJ ⟨tab [(7, vl6 x9.When)], stab [], 0⟩ ?_ ?_
  ·
   iterate 5 refine q1 _ ?_
   refine step (v := vp5 x8) (st_iaddr (xs := a1.Events) (e := eapi_Event) hx8 rfl rfl) ?_
   iterate 2 refine q1 _ ?_
   refine step (v := vp4 x9) (st_iaddr (xs := a0.Rules) (e := eapi_Rule) hx9 rfl rfl) ?_
   iterate 3 refine q1 _ ?_
   exact nR []
  refine NWp.seq ?_
  refine NWp.opsJ ⟨tab [(7, vl6 x9.When), (8, vi 0)], stab [], 0⟩ ?_ ?_
  ·
   refine q1 _ ?_
   exact nR []
  obtain ⟨q18, hl, h⟩ := bindE h
  refine NWp.block ?_
  refine loop_forR (cntU (x9.When.length : Int)) (fun (i10 : Int) (qq : Unit) => ⟨tab [(7, vl6 x9.When), (8, vi i10)], stab [], 0⟩) 0 (fun (qq : Unit) => ⟨tab [], stab [], 0⟩) Low low_step (r := r) hl (by unfold Low; omega) ?_ ?_ ?_ ?_
  ·
   rintro i10 ⟨⟩ xr15 hinv13 hgo12 h
   show NWp _ _ _ _ _ ⟨tab [(7, vl6 x9.When), (8, vi i10)], stab [], 0⟩
   have hc14 : decide (i10 < (x9.When.length : Int)) = true := decide_eq_true hgo12
   refine NWp.seq ?_
   refine NWp.opsJ ⟨tab [(7, vl6 x9.When), (8, vi i10), (52, vi (x9.When.length : Int)), (53, vb (decide (i10 < (x9.When.length : Int))))], stab [], 0⟩ ?_ ?_
   ·
    iterate 2 refine q1 _ ?_
    refine step (v := vi (x9.When.length : Int)) (st_len (xs := x9.When) (e := eapi_Pair) rfl) ?_
    refine q1 _ ?_
    exact nR []
   refine NWp.rng 52 rfl fun hB11 => ?_
   refine NWp.condT (t := decide (i10 < (x9.When.length : Int))) rfl hc14 ?_
   refine NWp.skip ?_
   refine NWp.seq ?_
   refine NWp.block ?_
   obtain ⟨x16, hx16, h⟩ := bindE h
   refine NWp.opsJ ⟨tab [(7, vl6 x9.When), (8, vi i10), (61, vb (x16.F == 0))], stab [], 0⟩ ?_ ?_
   ·
    iterate 2 refine q1 _ ?_
    refine step (v := vp7 x16) (st_iaddr (xs := x9.When) (e := eapi_Pair) hx16 rfl rfl) ?_
    iterate 3 refine q1 _ ?_
    exact nR []
   by_cases hc17 : (x16.F == 0) = true
   ·
    replace h := iteT hc17 h
    refine NWp.condT (t := (x16.F == 0)) rfl hc17 ?_
    refine NWp.opsJ ⟨tab [(6, vi (IntKind.i64.wrap x16.N))], stab [], 0⟩ ?_ ?_
    ·
     iterate 2 refine q1 _ ?_
     refine step (v := vp7 x16) (st_iaddr (xs := x9.When) (e := eapi_Pair) hx16 rfl rfl) ?_
     iterate 4 refine q1 _ ?_
     exact nR []
    obtain ⟨r18, kr18, hr⟩ := mapE (o := some (IntKind.i64.wrap x16.N)) (g := Br.ret) h
    subst hr
    have h := kr18
    have hh := Option.some.inj h
    subst hh
    refine NWp.ret ?_
    refine And.intro (fun hn => nomatch hn) ?_
    intro hq
    have hq := hq.symm
    subst hq
    show FQ _ _ _ _
    exact FQ.mk1 (.inr rfl) (res_t (v := vi (IntKind.i64.wrap x16.N)) rfl rfl) (RV.d trivial)
   ·
    replace h := iteF hc17 h
    refine NWp.condF (t := (x16.F == 0)) rfl hc17 ?_
    refine NWp.skip ?_
    have hh := Option.some.inj h
    subst hh
    refine NWp.opsE ⟨tab [(7, vl6 x9.When), (8, vi (i10 + 1))], stab [], 0⟩ ?_ ?_
    ·
     refine q1 _ ?_
     refine step (v := vi (i10 + 1)) (st_inc (inc_ok hinv13 hgo12 hB11) rfl rfl) ?_
     refine q1 _ ?_
     exact nR []
    exact And.intro rfl rfl
  ·
   rintro i10 ⟨⟩ hinv13 hgo12
   show NWp _ _ _ _ _ ⟨tab [(7, vl6 x9.When), (8, vi i10)], stab [], 0⟩
   have hc14 : ¬ (decide (i10 < (x9.When.length : Int)) = true) := fun hq => hgo12 (of_decide_eq_true hq)
   refine NWp.seq ?_
   refine NWp.opsJ ⟨tab [(7, vl6 x9.When), (8, vi i10), (53, vb (decide (i10 < (x9.When.length : Int))))], stab [], 0⟩ ?_ ?_
   ·
    iterate 2 refine q1 _ ?_
    refine step (v := vi (x9.When.length : Int)) (st_len (xs := x9.When) (e := eapi_Pair) rfl) ?_
    refine q1 _ ?_
    exact nR []
   refine NWp.condF (t := decide (i10 < (x9.When.length : Int))) rfl hc14 ?_
   refine NWp.norm (s0 := ⟨tab [], stab [], 0⟩) (nr []) ?_
   refine NWp.exit ?_
   exact And.intro rfl rfl
  ·
   intro r' hq
   subst hq
   exact Option.some.inj h
  rintro ⟨⟩ rfl
  refine NWp.opsJ ⟨tab [(6, vi (-1))], stab [], 0⟩ ?_ ?_
  ·
   refine q1 _ ?_
   exact nR []
  have hh := Option.some.inj h
  subst hh
  refine NWp.ret ?_
  show FQ _ _ _ _
  exact FQ.mk1 (.inr rfl) (res_t (v := vi (-1)) rfl rfl) (RV.d trivial)

theorem c_ref12_add {m0 : Bool} {a0 : (List Int)} {a1 : Int} {r : (List Int)} (h : ref12_add a0 a1 = some r) : SCall Tryd.prog 53 [.loc 0 0 a0.length, .d (.int .u64 a1)] (stab [(0, .lst m0 none (List.map (D.int .u64) a0))]) 1 (.loc 1 0 r.length) (stab [(1, .lst m0 none (List.map (D.int .u64) r))]) 2 := by
 refine SCall.introN (bl := [(0, .lst m0 none (List.map (D.int .u64) a0))]) (bl' := [(1, .lst m0 none (List.map (D.int .u64) r))]) ok53 (show 2 ≤ 23 by decide) rfl ?_
 refine NWp.norm (s0 := ⟨tab [(0, .loc 0 0 a0.length), (1, .d (.int .u64 a1))], stab [(0, .lst m0 none (List.map (D.int .u64) a0))], 1⟩) (nr [0]) ?_
 refine NWp.opsJ ⟨tab [(0, .loc 0 0 a0.length), (1, .d (.int .u64 a1))], stab [(0, .lst m0 none (List.map (D.int .u64) a0))], 1⟩ ?_ ?_
 ·
  refine q1 _ ?_
  exact nR [0]
 refine NWp.seq ?_
 refine NWp.opsJ ⟨tab [(0, .loc 0 0 a0.length), (1, .d (.int .u64 a1)), (5, vi 0)], stab [(0, .lst m0 none (List.map (D.int .u64) a0))], 1⟩ ?_ ?_
 ·
  refine q1 _ ?_
  exact nR [0]
 obtain ⟨q10, hl, h⟩ := bindE h
 refine NWp.block ?_
 refine loop_forR (cntU (a0.length : Int)) (fun (i1 : Int) (qq : Unit) => ⟨tab [(0, .loc 0 0 a0.length), (1, .d (.int .u64 a1)), (5, vi i1)], stab [(0, .lst m0 none (List.map (D.int .u64) a0))], 1⟩) 0 (fun (qq : Unit) => ⟨tab [(0, .loc 0 0 a0.length), (1, .d (.int .u64 a1))], stab [(0, .lst m0 none (List.map (D.int .u64) a0))], 1⟩) Low low_step (r := r) hl (by unfold Low; omega) ?_ ?_ ?_ ?_
 ·
  rintro i1 ⟨⟩ xr6 hinv4 hgo3 h
  show NWp _ _ _ _ _ ⟨tab [(0, .loc 0 0 a0.length), (1, .d (.int .u64 a1)), (5, vi i1)], stab [(0, .lst m0 none (List.map (D.int .u64) a0))], 1⟩
  have hc5 : decide (i1 < (a0.length : Int)) = true := decide_eq_true hgo3
  refine NWp.seq ?_
  refine NWp.opsJ ⟨tab [(0, .loc 0 0 a0.length), (1, .d (.int .u64 a1)), (5, vi i1), (8, vi (a0.length : Int)), (9, vb (decide (i1 < (a0.length : Int))))], stab [(0, .lst m0 none (List.map (D.int .u64) a0))], 1⟩ ?_ ?_
  ·
   iterate 4 refine q1 _ ?_
   exact nR [0]
  refine NWp.rng 8 rfl fun hB2 => ?_
  refine NWp.condT (t := decide (i1 < (a0.length : Int))) rfl hc5 ?_
  refine NWp.skip ?_
  refine NWp.seq ?_
  refine NWp.block ?_
  obtain ⟨x7, hx7, h⟩ := bindE h
  refine NWp.opsJ ⟨tab [(0, .loc 0 0 a0.length), (1, .d (.int .u64 a1)), (5, vi i1), (17, vb (x7 == a1))], stab [(0, .lst m0 none (List.map (D.int .u64) a0))], 1⟩ ?_ ?_
  ·
   iterate 2 refine q1 _ ?_
   refine step (v := .ptr 0 i1.toNat 0) (st_iaddrL (xs := a0) (e := (D.int .u64)) hx7 rfl rfl rfl rfl) ?_
   refine step (v := .d (.int .u64 x7)) (st_loadL (xs := a0) (e := (D.int .u64)) hx7 rfl rfl rfl) ?_
   iterate 2 refine q1 _ ?_
   exact nR [0]
  by_cases hc8 : (x7 == a1) = true
  ·
   replace h := iteT hc8 h
   refine NWp.condT (t := (x7 == a1)) rfl hc8 ?_
   refine NWp.opsJ ⟨tab [(4, .loc 0 0 a0.length)], stab [(0, .lst m0 none (List.map (D.int .u64) a0))], 1⟩ ?_ ?_
   ·
    iterate 2 refine q1 _ ?_
    exact nR [0]
   obtain ⟨r9, kr9, hr⟩ := mapE (o := some a0) (g := Br.ret) h
   subst hr
   have h := kr9
   have hh := Option.some.inj h
   subst hh
   refine NWp.norm (s0 := ⟨tab [(4, .loc 1 0 a0.length)], stab [(1, .lst m0 none (List.map (D.int .u64) a0))], 2⟩) (Norm.mkR [0, 0] [1] (by decide) rfl (by decide) (by decide) ⟨.lc 1, trivial⟩ ⟨⟨show 1 < 2 by decide, _, rfl, .lst _ _ _⟩, trivial⟩) ?_
   refine NWp.ret ?_
   refine And.intro (fun hn => nomatch hn) ?_
   intro hq
   have hq := hq.symm
   subst hq
   exact ⟨.inr rfl, _, rfl, rfl, AllS.sub ⟨rfl, trivial⟩, rfl⟩
  ·
   replace h := iteF hc8 h
   refine NWp.condF (t := (x7 == a1)) rfl hc8 ?_
   refine NWp.skip ?_
   have hh := Option.some.inj h
   subst hh
   refine NWp.opsE ⟨tab [(0, .loc 0 0 a0.length), (1, .d (.int .u64 a1)), (5, vi (i1 + 1))], stab [(0, .lst m0 none (List.map (D.int .u64) a0))], 1⟩ ?_ ?_
   ·
    refine q1 _ ?_
    refine step (v := vi (i1 + 1)) (st_inc (inc_ok hinv4 hgo3 hB2) rfl rfl) ?_
    refine q1 _ ?_
    exact nR [0]
   exact And.intro rfl rfl
 ·
  rintro i1 ⟨⟩ hinv4 hgo3
  show NWp _ _ _ _ _ ⟨tab [(0, .loc 0 0 a0.length), (1, .d (.int .u64 a1)), (5, vi i1)], stab [(0, .lst m0 none (List.map (D.int .u64) a0))], 1⟩
  have hc5 : ¬ (decide (i1 < (a0.length : Int)) = true) := fun hq => hgo3 (of_decide_eq_true hq)
  refine NWp.seq ?_
  refine NWp.opsJ ⟨tab [(0, .loc 0 0 a0.length), (1, .d (.int .u64 a1)), (5, vi i1), (9, vb (decide (i1 < (a0.length : Int))))], stab [(0, .lst m0 none (List.map (D.int .u64) a0))], 1⟩ ?_ ?_
  ·
   iterate 4 refine q1 _ ?_
   exact nR [0]
  refine NWp.condF (t := decide (i1 < (a0.length : Int))) rfl hc5 ?_
  refine NWp.norm (s0 := ⟨tab [(0, .loc 0 0 a0.length), (1, .d (.int .u64 a1))], stab [(0, .lst m0 none (List.map (D.int .u64) a0))], 1⟩) (nr [0]) ?_
  refine NWp.exit ?_
  exact And.intro rfl rfl
 ·
  intro r' hq
  subst hq
  exact Option.some.inj h
 rintro ⟨⟩ rfl
 obtain ⟨l9, hl9, h⟩ := bindE h
 refine NWp.opsJ ⟨tab [(4, .loc 1 0 l9.length)], stab [(1, .lst m0 none (List.map (D.int .u64) l9))], 2⟩ ?_ ?_
 ·
  iterate 3 refine q1 _ ?_
  refine step (v := .loc 1 0 l9.length) (σ' := (upd (upd (stab [(0, .lst m0 none (List.map (D.int .u64) a0))]) 0 none) 1 (some (.lst m0 none (List.map (D.int .u64) l9))))) (n' := 2) (st_app (xs := a0) (ys := ([a1] : List Int)) (e := (D.int .u64)) hl9 rfl rfl rfl (src_v (xs := ([a1] : List Int)) (e := (D.int .u64)) rfl)) ?_
  refine q1 _ ?_
  exact nR [0, 1]
 have hh := Option.some.inj h
 subst hh
 refine NWp.ret ?_
 exact ⟨.inr rfl, _, rfl, rfl, AllS.sub ⟨rfl, trivial⟩, rfl⟩

theorem c_ref12_parts {a0 : api_Program} {a1 : api_Nes} {r : (List (List Int))} (h : ref12_parts a0 a1 = some r) : PCall Tryd.prog 44 [eapi_Program a0, eapi_Nes a1] (eL none (eL none (D.int .u64)) r) := by
 refine PCall.introN ok44 (show 2 ≤ 124 by decide) ?_
 refine NWp.norm (s0 := ⟨tab [(0, vs2 a0), (1, vs1 a1)], stab [], 0⟩) (nr []) ?_
 refine NWp.opsJ ⟨tab [(2, vp2 a0), (3, vp0 a1)], stab [], 0⟩ ?_ ?_
 ·
  iterate 3 refine q1 _ ?_
  exact nR []
 refine NWp.opsJ ⟨tab [(2, vp2 a0), (3, vp0 a1), (5, .d (.nils))], stab [], 0⟩ ?_ ?_
 ·
  refine q1 _ ?_
  exact nR []
 refine NWp.opsJ ⟨tab [(2, vp2 a0), (3, vp0 a1), (5, .d (.nils)), (6, .d (.nils))], stab [], 0⟩ ?_ ?_
 ·
  refine q1 _ ?_
  exact nR []
 refine NWp.seq ?_
 refine NWp.opsJ ⟨tab [(2, vp2 a0), (3, vp0 a1), (5, .d (.nils)), (6, .d (.nils)), (7, vi 0)], stab [], 0⟩ ?_ ?_
 ·
  refine q1 _ ?_
  exact nR []
 obtain ⟨q70, hl, h⟩ := bindE h
 obtain ⟨z28, z29⟩ := q70
 refine NWp.norm (s0 := ⟨tab [(2, vp2 a0), (3, vp0 a1), (5, .loc 0 0 (([] : List Int).length)), (6, .loc 1 0 (([] : List Int).length)), (7, vi 0)], stab [(0, .lst false none (List.map (D.int .i64) ([] : List Int))), (1, .lst true none (List.map (D.int .u64) ([] : List Int)))], 2⟩) (Norm.trans (s2 := ⟨tab [(2, vp2 a0), (3, vp0 a1), (5, .loc 0 0 (([] : List Int).length)), (6, .loc 1 0 (([] : List Int).length)), (7, vi 0)], stab [(0, .lst false none (List.map (D.int .i64) ([] : List Int))), (1, .lst true none (List.map (D.int .u64) ([] : List Int)))], 2⟩) (Norm.nil1 5 false none rfl) (Norm.trans (s2 := ⟨tab [(2, vp2 a0), (3, vp0 a1), (5, .loc 0 0 (([] : List Int).length)), (6, .loc 1 0 (([] : List Int).length)), (7, vi 0)], stab [(0, .lst false none (List.map (D.int .i64) ([] : List Int))), (1, .lst true none (List.map (D.int .u64) ([] : List Int)))], 2⟩) (Norm.nil1 6 true none rfl) (nr [0, 1]))) ?_
 refine NWp.block ?_
 refine loop_forO (cntU (a1.Events.length : Int)) (fun (i3 : Int) (qq : ((List Int) × (List Int))) => ⟨tab [(2, vp2 a0), (3, vp0 a1), (5, .loc 0 0 qq.1.length), (6, .loc 1 0 qq.2.length), (7, vi i3)], stab [(0, .lst false none (List.map (D.int .i64) qq.1)), (1, .lst true none (List.map (D.int .u64) qq.2))], 2⟩) 0 (fun (qq : ((List Int) × (List Int))) => ⟨tab [(3, vp0 a1), (6, .loc 0 0 qq.2.length)], stab [(0, .lst true none (List.map (D.int .u64) qq.2))], 1⟩) Low low_step hl (by unfold Low; omega) ?_ ?_ ?_
 ·
  rintro i3 ⟨l1, l2⟩ xr8 hinv6 hgo5 h
  show NWp _ _ _ _ _ ⟨tab [(2, vp2 a0), (3, vp0 a1), (5, .loc 0 0 l1.length), (6, .loc 1 0 l2.length), (7, vi i3)], stab [(0, .lst false none (List.map (D.int .i64) l1)), (1, .lst true none (List.map (D.int .u64) l2))], 2⟩
  have hc7 : decide (i3 < (a1.Events.length : Int)) = true := decide_eq_true hgo5
  refine NWp.seq ?_
  refine NWp.opsJ ⟨tab [(2, vp2 a0), (3, vp0 a1), (5, .loc 0 0 l1.length), (6, .loc 1 0 l2.length), (7, vi i3), (19, vi (a1.Events.length : Int)), (20, vb (decide (i3 < (a1.Events.length : Int))))], stab [(0, .lst false none (List.map (D.int .i64) l1)), (1, .lst true none (List.map (D.int .u64) l2))], 2⟩ ?_ ?_
  ·
   iterate 3 refine q1 _ ?_
   refine step (v := vi (a1.Events.length : Int)) (st_len (xs := a1.Events) (e := eapi_Event) rfl) ?_
   refine q1 _ ?_
   exact nR [0, 1]
  refine NWp.rng 19 rfl fun hB4 => ?_
  refine NWp.condT (t := decide (i3 < (a1.Events.length : Int))) rfl hc7 ?_
  refine NWp.skip ?_
  refine NWp.seq ?_
  refine NWp.block ?_
  obtain ⟨r9, hr9, h⟩ := bindE h
  refine NWp.opsJ ⟨tab [(2, vp2 a0), (3, vp0 a1), (5, .loc 0 0 l1.length), (6, .loc 1 0 l2.length), (7, vi i3), (8, vi r9)], stab [(0, .lst false none (List.map (D.int .i64) l1)), (1, .lst true none (List.map (D.int .u64) l2))], 2⟩ ?_ ?_
  ·
   iterate 3 refine q1 _ ?_
   refine stepC (r := .int .i64 r9) (ArgsOk.dt (ArgsOk.dt (ArgsOk.dt ArgsOk.nil'))) (c_ref12_Switch hr9) ?_
   refine q1 _ ?_
   exact nR [0, 1]
  refine NWp.opsJ ⟨tab [(2, vp2 a0), (3, vp0 a1), (5, .loc 0 0 l1.length), (6, .loc 1 0 l2.length), (7, vi i3), (8, vi r9), (9, vi 0)], stab [(0, .lst false none (List.map (D.int .i64) l1)), (1, .lst true none (List.map (D.int .u64) l2))], 2⟩ ?_ ?_
  ·
   refine q1 _ ?_
   exact nR [0, 1]
  refine NWp.seq ?_
  obtain ⟨z17, hl, h⟩ := bindE h
  refine NWp.block ?_
  refine loop_whK (fun (qq : Int) => ⟨tab [(2, vp2 a0), (3, vp0 a1), (5, .loc 0 0 l1.length), (6, .loc 1 0 l2.length), (7, vi i3), (8, vi r9), (9, vi qq)], stab [(0, .lst false none (List.map (D.int .i64) l1)), (1, .lst true none (List.map (D.int .u64) l2))], 2⟩) 2 (fun (qq : Int) => ⟨tab [(2, vp2 a0), (3, vp0 a1), (5, .loc 0 0 l1.length), (6, .loc 1 0 l2.length), (7, vi i3), (8, vi r9), (9, vi qq)], stab [(0, .lst false none (List.map (D.int .i64) l1)), (1, .lst true none (List.map (D.int .u64) l2))], 2⟩) hl ?_ ?_
  ·
   rintro i10 xr11 h
   show NWp _ _ _ _ _ ⟨tab [(2, vp2 a0), (3, vp0 a1), (5, .loc 0 0 l1.length), (6, .loc 1 0 l2.length), (7, vi i3), (8, vi r9), (9, vi i10)], stab [(0, .lst false none (List.map (D.int .i64) l1)), (1, .lst true none (List.map (D.int .u64) l2))], 2⟩
   refine NWp.seq ?_
   obtain ⟨y14, hv, h⟩ := bindE h
   refine NWp.opsJ ⟨tab [(2, vp2 a0), (3, vp0 a1), (5, .loc 0 0 l1.length), (6, .loc 1 0 l2.length), (7, vi i3), (8, vi r9), (9, vi i10), (38, vb y14)], stab [(0, .lst false none (List.map (D.int .i64) l1)), (1, .lst true none (List.map (D.int .u64) l2))], 2⟩ ?_ ?_
   ·
    iterate 5 refine q1 _ ?_
    by_cases hg12 : decide (i10 < (l1.length : Int)) = true
    ·
     replace hv := iteT hg12 hv
     obtain ⟨x13, hx13, hv⟩ := bindE hv
     refine qG _ hg12 ?_
     refine q1 _ ?_
     refine qG _ hg12 ?_
     refine q1 _ ?_
     refine qG _ hg12 ?_
     refine step (v := .ptr 0 i10.toNat 0) (st_iaddrL (xs := l1) (e := (D.int .i64)) hx13 rfl rfl rfl rfl) ?_
     refine qG _ hg12 ?_
     refine step (v := vi x13) (st_loadL (xs := l1) (e := (D.int .i64)) hx13 rfl rfl rfl) ?_
     refine qG _ hg12 ?_
     refine q1 _ ?_
     refine qG _ hg12 ?_
     refine q1 _ ?_
     refine step (v := vb (x13 != r9)) (st_pickT (b := decide (i10 < (l1.length : Int))) rfl hg12 rfl) ?_
     have hh := Option.some.inj hv
     subst hh
     exact nR [0, 1]
    ·
     replace hv := iteF hg12 hv
     iterate 6 refine qX _ hg12 ?_
     refine step (v := vb false) (st_pickF (b := decide (i10 < (l1.length : Int))) rfl hg12 rfl) ?_
     have hh := Option.some.inj hv
     subst hh
     exact nR [0, 1]
   by_cases hc16 : y14 = true
   ·
    replace h := iteT hc16 h
    refine NWp.condT (t := y14) rfl hc16 ?_
    refine NWp.skip ?_
    refine NWp.block ?_
    have hh := Option.some.inj h
    subst hh
    refine NWp.opsE ⟨tab [(2, vp2 a0), (3, vp0 a1), (5, .loc 0 0 l1.length), (6, .loc 1 0 l2.length), (7, vi i3), (8, vi r9), (9, vi (IntKind.i64.wrap (i10 + 1)))], stab [(0, .lst false none (List.map (D.int .i64) l1)), (1, .lst true none (List.map (D.int .u64) l2))], 2⟩ ?_ ?_
    ·
     iterate 3 refine q1 _ ?_
     exact nR [0, 1]
    exact And.intro rfl rfl
   ·
    replace h := iteF hc16 h
    refine NWp.condF (t := y14) rfl hc16 ?_
    have hh := Option.some.inj h
    subst hh
    refine NWp.norm (s0 := ⟨tab [(2, vp2 a0), (3, vp0 a1), (5, .loc 0 0 l1.length), (6, .loc 1 0 l2.length), (7, vi i3), (8, vi r9), (9, vi i10)], stab [(0, .lst false none (List.map (D.int .i64) l1)), (1, .lst true none (List.map (D.int .u64) l2))], 2⟩) (nr [0, 1]) ?_
    refine NWp.exit ?_
    exact And.intro rfl rfl
  obtain ⟨q23, hv, h⟩ := bindE h
  obtain ⟨l21, l22⟩ := q23
  refine NWp.seqN ⟨tab [(2, vp2 a0), (3, vp0 a1), (5, .loc 0 0 l21.length), (6, .loc 1 0 l22.length), (7, vi i3), (9, vi z17)], stab [(0, .lst false none (List.map (D.int .i64) l21)), (1, .lst true none (List.map (D.int .u64) l22))], 2⟩ ?_ ?_
  ·
   replace h := hv
   refine NWp.opsJ ⟨tab [(2, vp2 a0), (3, vp0 a1), (5, .loc 0 0 l1.length), (6, .loc 1 0 l2.length), (7, vi i3), (8, vi r9), (9, vi z17), (44, vb (z17 == (l1.length : Int)))], stab [(0, .lst false none (List.map (D.int .i64) l1)), (1, .lst true none (List.map (D.int .u64) l2))], 2⟩ ?_ ?_
   ·
    iterate 4 refine q1 _ ?_
    exact nR [0, 1]
   by_cases hc18 : (z17 == (l1.length : Int)) = true
   ·
    replace h := iteT hc18 h
    refine NWp.condT (t := (z17 == (l1.length : Int))) rfl hc18 ?_
    obtain ⟨l19, hl19, h⟩ := bindE h
    refine NWp.opsJ ⟨tab [(2, vp2 a0), (3, vp0 a1), (5, .loc 0 0 l19.length), (6, .loc 1 0 l2.length), (7, vi i3), (9, vi z17)], stab [(0, .lst false none (List.map (D.int .i64) l19)), (1, .lst true none (List.map (D.int .u64) l2))], 2⟩ ?_ ?_
    ·
     iterate 3 refine q1 _ ?_
     refine step (v := .loc 2 0 l19.length) (σ' := (upd (upd (stab [(0, .lst false none (List.map (D.int .i64) l1)), (1, .lst true none (List.map (D.int .u64) l2))]) 0 none) 2 (some (.lst false none (List.map (D.int .i64) l19))))) (n' := 3) (st_app (xs := l1) (ys := ([r9] : List Int)) (e := (D.int .i64)) hl19 rfl rfl rfl (src_v (xs := ([r9] : List Int)) (e := (D.int .i64)) rfl)) ?_
     refine q1 _ ?_
     exact nR [2, 1]
    obtain ⟨l20, hl20, h⟩ := bindE h
    have hh := Option.some.inj h
    obtain ⟨he0, ht0⟩ := Prod.mk.inj hh
    subst he0
    subst ht0
    refine NWp.opsE ⟨tab [(2, vp2 a0), (3, vp0 a1), (5, .loc 0 0 l19.length), (6, .loc 1 0 l20.length), (7, vi i3), (9, vi z17)], stab [(0, .lst false none (List.map (D.int .i64) l19)), (1, .lst true none (List.map (D.int .u64) l20))], 2⟩ ?_ ?_
    ·
     iterate 2 refine q1 _ ?_
     refine step (v := .loc 2 0 l20.length) (σ' := (upd (upd (stab [(0, .lst false none (List.map (D.int .i64) l19)), (1, .lst true none (List.map (D.int .u64) l2))]) 1 none) 2 (some (.lst true none (List.map (D.int .u64) l20))))) (n' := 3) (st_app (xs := l2) (ys := ([0] : List Int)) (e := (D.int .u64)) hl20 rfl rfl rfl (src_v (xs := ([0] : List Int)) (e := (D.int .u64)) rfl)) ?_
     refine q1 _ ?_
     exact nR [0, 2]
    exact And.intro rfl rfl
   ·
    replace h := iteF hc18 h
    refine NWp.condF (t := (z17 == (l1.length : Int))) rfl hc18 ?_
    have hh := Option.some.inj h
    obtain ⟨he0, ht0⟩ := Prod.mk.inj hh
    subst he0
    subst ht0
    refine NWp.norm (s0 := ⟨tab [(2, vp2 a0), (3, vp0 a1), (5, .loc 0 0 l1.length), (6, .loc 1 0 l2.length), (7, vi i3), (9, vi z17)], stab [(0, .lst false none (List.map (D.int .i64) l1)), (1, .lst true none (List.map (D.int .u64) l2))], 2⟩) (nr [0, 1]) ?_
    refine NWp.skip ?_
    exact And.intro rfl rfl
  obtain ⟨x24, hx24, h⟩ := bindE h
  obtain ⟨r25, hr25, h⟩ := bindE h
  obtain ⟨l26, hl26, h⟩ := bindE h
  refine NWp.opsE ⟨tab [(2, vp2 a0), (3, vp0 a1), (5, .loc 0 0 l21.length), (6, .loc 1 0 l26.length), (7, vi i3)], stab [(0, .lst false none (List.map (D.int .i64) l21)), (1, .lst true none (List.map (D.int .u64) l26))], 2⟩ ?_ ?_
  ·
   iterate 4 refine q1 _ ?_
   refine step (v := .ptr 1 z17.toNat 0) (st_iaddrL (xs := l22) (e := (D.int .u64)) hx24 rfl rfl rfl rfl) ?_
   refine step (v := .d (.int .u64 x24)) (st_loadL (xs := l22) (e := (D.int .u64)) hx24 rfl rfl rfl) ?_
   refine q1 _ ?_
   refine stepC (r := .int .u64 r25) (ArgsOk.dt (ArgsOk.dt ArgsOk.nil')) (c_ref02_With hr25) ?_
   refine step (v := .ptr 1 z17.toNat 0) (st_iaddrL (xs := l22) (e := (D.int .u64)) hx24 rfl rfl rfl rfl) ?_
   refine step (v := V.undef) (σ' := (upd (stab [(0, .lst false none (List.map (D.int .i64) l21)), (1, .lst true none (List.map (D.int .u64) l22))]) 1 (some (.lst true none (List.map (D.int .u64) l26))))) (n' := 2) (st_storeL' (e := (D.int .u64)) (v' := r25) hl26 rfl rfl rfl rfl rfl) ?_
   exact RunOps.nil' (nm [0, 1] ⟨.d _, .d _, .lc 0, .le (id := 1) (gput_len hl26).symm (show 1 < 2 by decide), .d _, trivial⟩ ⟨⟨show 0 < 2 by decide, _, rfl, .lst _ _ _⟩, ⟨show 1 < 2 by decide, _, rfl, .lst _ _ _⟩, trivial⟩)
  have hh := Option.some.inj h
  subst hh
  refine NWp.opsE ⟨tab [(2, vp2 a0), (3, vp0 a1), (5, .loc 0 0 l21.length), (6, .loc 1 0 l26.length), (7, vi (i3 + 1))], stab [(0, .lst false none (List.map (D.int .i64) l21)), (1, .lst true none (List.map (D.int .u64) l26))], 2⟩ ?_ ?_
  ·
   refine q1 _ ?_
   refine step (v := vi (i3 + 1)) (st_inc (inc_ok hinv6 hgo5 hB4) rfl rfl) ?_
   refine q1 _ ?_
   exact nR [0, 1]
  exact And.intro rfl rfl
 ·
  rintro i3 ⟨l1, l2⟩ hinv6 hgo5
  show NWp _ _ _ _ _ ⟨tab [(2, vp2 a0), (3, vp0 a1), (5, .loc 0 0 l1.length), (6, .loc 1 0 l2.length), (7, vi i3)], stab [(0, .lst false none (List.map (D.int .i64) l1)), (1, .lst true none (List.map (D.int .u64) l2))], 2⟩
  have hc7 : ¬ (decide (i3 < (a1.Events.length : Int)) = true) := fun hq => hgo5 (of_decide_eq_true hq)
  refine NWp.seq ?_
  refine NWp.opsJ ⟨tab [(2, vp2 a0), (3, vp0 a1), (5, .loc 0 0 l1.length), (6, .loc 1 0 l2.length), (7, vi i3), (20, vb (decide (i3 < (a1.Events.length : Int))))], stab [(0, .lst false none (List.map (D.int .i64) l1)), (1, .lst true none (List.map (D.int .u64) l2))], 2⟩ ?_ ?_
  ·
   iterate 3 refine q1 _ ?_
   refine step (v := vi (a1.Events.length : Int)) (st_len (xs := a1.Events) (e := eapi_Event) rfl) ?_
   refine q1 _ ?_
   exact nR [0, 1]
  refine NWp.condF (t := decide (i3 < (a1.Events.length : Int))) rfl hc7 ?_
  refine NWp.norm (s0 := ⟨tab [(3, vp0 a1), (6, .loc 0 0 l2.length)], stab [(0, .lst true none (List.map (D.int .u64) l2))], 1⟩) (nr [1]) ?_
  refine NWp.exit ?_
  exact And.intro rfl rfl
 refine NWp.opsJ ⟨tab [(3, vp0 a1), (6, .loc 0 0 z29.length), (10, .d (.nils))], stab [(0, .lst true none (List.map (D.int .u64) z29))], 1⟩ ?_ ?_
 ·
  refine q1 _ ?_
  exact nR [0]
 refine NWp.seq ?_
 refine NWp.opsJ ⟨tab [(3, vp0 a1), (6, .loc 0 0 z29.length), (10, .d (.nils)), (11, vi 0)], stab [(0, .lst true none (List.map (D.int .u64) z29))], 1⟩ ?_ ?_
 ·
  refine q1 _ ?_
  exact nR [0]
 obtain ⟨z68, hl, h⟩ := bindE h
 refine NWp.norm (s0 := ⟨tab [(3, vp0 a1), (6, .loc 0 0 z29.length), (10, .loc 1 0 (([] : List (List Int)).length)), (11, vi 0)], stab [(0, .lst true none (List.map (D.int .u64) z29)), (1, .lst false none (List.map (eL none (D.int .u64)) ([] : List (List Int))))], 2⟩) (Norm.trans (s2 := ⟨tab [(3, vp0 a1), (6, .loc 0 0 z29.length), (10, .loc 1 0 (([] : List (List Int)).length)), (11, vi 0)], stab [(0, .lst true none (List.map (D.int .u64) z29)), (1, .lst false none (List.map (eL none (D.int .u64)) ([] : List (List Int))))], 2⟩) (Norm.nil1 10 false none rfl) (nr [0, 1])) ?_
 refine NWp.block ?_
 refine loop_forO (cntU (z29.length : Int)) (fun (i31 : Int) (qq : (List (List Int))) => ⟨tab [(3, vp0 a1), (6, .loc 0 0 z29.length), (10, .loc 1 0 qq.length), (11, vi i31)], stab [(0, .lst true none (List.map (D.int .u64) z29)), (1, .lst false none (List.map (eL none (D.int .u64)) qq))], 2⟩) 4 (fun (qq : (List (List Int))) => ⟨tab [(10, .loc 0 0 qq.length)], stab [(0, .lst false none (List.map (eL none (D.int .u64)) qq))], 1⟩) Low low_step hl (by unfold Low; omega) ?_ ?_ ?_
 ·
  rintro i31 l30 xr36 hinv34 hgo33 h
  show NWp _ _ _ _ _ ⟨tab [(3, vp0 a1), (6, .loc 0 0 z29.length), (10, .loc 1 0 l30.length), (11, vi i31)], stab [(0, .lst true none (List.map (D.int .u64) z29)), (1, .lst false none (List.map (eL none (D.int .u64)) l30))], 2⟩
  have hc35 : decide (i31 < (z29.length : Int)) = true := decide_eq_true hgo33
  refine NWp.seq ?_
  refine NWp.opsJ ⟨tab [(3, vp0 a1), (6, .loc 0 0 z29.length), (10, .loc 1 0 l30.length), (11, vi i31), (63, vi (z29.length : Int)), (64, vb (decide (i31 < (z29.length : Int))))], stab [(0, .lst true none (List.map (D.int .u64) z29)), (1, .lst false none (List.map (eL none (D.int .u64)) l30))], 2⟩ ?_ ?_
  ·
   iterate 4 refine q1 _ ?_
   exact nR [0, 1]
  refine NWp.rng 63 rfl fun hB32 => ?_
  refine NWp.condT (t := decide (i31 < (z29.length : Int))) rfl hc35 ?_
  refine NWp.skip ?_
  refine NWp.seq ?_
  refine NWp.block ?_
  refine NWp.opsJ ⟨tab [(3, vp0 a1), (6, .loc 0 0 z29.length), (10, .loc 1 0 l30.length), (11, vi i31), (12, .loc 2 0 (([] : List Int).length))], stab [(0, .lst true none (List.map (D.int .u64) z29)), (1, .lst false none (List.map (eL none (D.int .u64)) l30)), (2, .lst false none (List.map (D.int .u64) ([] : List Int)))], 3⟩ ?_ ?_
  ·
   refine q1 _ ?_
   exact RunOps.nil' (Norm.trans (s2 := ⟨tab [(3, vp0 a1), (6, .loc 0 0 z29.length), (10, .loc 1 0 l30.length), (11, vi i31), (12, .loc 2 0 (([] : List Int).length))], stab [(0, .lst true none (List.map (D.int .u64) z29)), (1, .lst false none (List.map (eL none (D.int .u64)) l30)), (2, .lst false none (List.map (D.int .u64) ([] : List Int)))], 3⟩) (Norm.nil1 12 false none rfl) (nr [0, 1, 2]))
  refine NWp.seq ?_
  refine NWp.opsJ ⟨tab [(3, vp0 a1), (6, .loc 0 0 z29.length), (10, .loc 1 0 l30.length), (11, vi i31), (12, .loc 2 0 (([] : List Int).length)), (13, vi 0)], stab [(0, .lst true none (List.map (D.int .u64) z29)), (1, .lst false none (List.map (eL none (D.int .u64)) l30)), (2, .lst false none (List.map (D.int .u64) ([] : List Int)))], 3⟩ ?_ ?_
  ·
   refine q1 _ ?_
   exact nR [0, 1, 2]
  obtain ⟨z65, hl, h⟩ := bindE h
  refine NWp.block ?_
  refine loop_forO (cntU (a1.Sets.length : Int)) (fun (i38 : Int) (qq : (List Int)) => ⟨tab [(3, vp0 a1), (6, .loc 0 0 z29.length), (10, .loc 1 0 l30.length), (11, vi i31), (12, .loc 2 0 qq.length), (13, vi i38)], stab [(0, .lst true none (List.map (D.int .u64) z29)), (1, .lst false none (List.map (eL none (D.int .u64)) l30)), (2, .lst false none (List.map (D.int .u64) qq))], 3⟩) 6 (fun (qq : (List Int)) => ⟨tab [(3, vp0 a1), (6, .loc 0 0 z29.length), (10, .loc 1 0 l30.length), (11, vi i31), (12, .loc 2 0 qq.length)], stab [(0, .lst true none (List.map (D.int .u64) z29)), (1, .lst false none (List.map (eL none (D.int .u64)) l30)), (2, .lst false none (List.map (D.int .u64) qq))], 3⟩) Low low_step hl (by unfold Low; omega) ?_ ?_ ?_
  ·
   rintro i38 l37 xr43 hinv41 hgo40 h
   show NWp _ _ _ _ _ ⟨tab [(3, vp0 a1), (6, .loc 0 0 z29.length), (10, .loc 1 0 l30.length), (11, vi i31), (12, .loc 2 0 l37.length), (13, vi i38)], stab [(0, .lst true none (List.map (D.int .u64) z29)), (1, .lst false none (List.map (eL none (D.int .u64)) l30)), (2, .lst false none (List.map (D.int .u64) l37))], 3⟩
   have hc42 : decide (i38 < (a1.Sets.length : Int)) = true := decide_eq_true hgo40
   refine NWp.seq ?_
   refine NWp.opsJ ⟨tab [(3, vp0 a1), (6, .loc 0 0 z29.length), (10, .loc 1 0 l30.length), (11, vi i31), (12, .loc 2 0 l37.length), (13, vi i38), (70, vi (a1.Sets.length : Int)), (71, vb (decide (i38 < (a1.Sets.length : Int))))], stab [(0, .lst true none (List.map (D.int .u64) z29)), (1, .lst false none (List.map (eL none (D.int .u64)) l30)), (2, .lst false none (List.map (D.int .u64) l37))], 3⟩ ?_ ?_
   ·
    iterate 3 refine q1 _ ?_
    refine step (v := vi (a1.Sets.length : Int)) (st_len (xs := a1.Sets) (e := (D.int .u64)) rfl) ?_
    refine q1 _ ?_
    exact nR [0, 1, 2]
   refine NWp.rng 70 rfl fun hB39 => ?_
   refine NWp.condT (t := decide (i38 < (a1.Sets.length : Int))) rfl hc42 ?_
   refine NWp.skip ?_
   obtain ⟨l63, hv, h⟩ := bindE h
   refine NWp.seqN ⟨tab [(3, vp0 a1), (6, .loc 0 0 z29.length), (10, .loc 1 0 l30.length), (11, vi i31), (12, .loc 2 0 l63.length), (13, vi i38)], stab [(0, .lst true none (List.map (D.int .u64) z29)), (1, .lst false none (List.map (eL none (D.int .u64)) l30)), (2, .lst false none (List.map (D.int .u64) l63))], 3⟩ ?_ ?_
   ·
    replace h := hv
    refine NWp.block ?_
    refine NWp.opsJ ⟨tab [(3, vp0 a1), (6, .loc 0 0 z29.length), (10, .loc 1 0 l30.length), (11, vi i31), (12, .loc 2 0 l37.length), (13, vi i38), (14, vb true)], stab [(0, .lst true none (List.map (D.int .u64) z29)), (1, .lst false none (List.map (eL none (D.int .u64)) l30)), (2, .lst false none (List.map (D.int .u64) l37))], 3⟩ ?_ ?_
    ·
     refine q1 _ ?_
     exact nR [0, 1, 2]
    refine NWp.seq ?_
    refine NWp.opsJ ⟨tab [(3, vp0 a1), (6, .loc 0 0 z29.length), (10, .loc 1 0 l30.length), (11, vi i31), (12, .loc 2 0 l37.length), (13, vi i38), (14, vb true), (15, vi 0)], stab [(0, .lst true none (List.map (D.int .u64) z29)), (1, .lst false none (List.map (eL none (D.int .u64)) l30)), (2, .lst false none (List.map (D.int .u64) l37))], 3⟩ ?_ ?_
    ·
     refine q1 _ ?_
     exact nR [0, 1, 2]
    obtain ⟨z57, hl, h⟩ := bindE h
    refine NWp.block ?_
    refine loop_forO (cntU (a1.Sets.length : Int)) (fun (i45 : Int) (qq : Bool) => ⟨tab [(3, vp0 a1), (6, .loc 0 0 z29.length), (10, .loc 1 0 l30.length), (11, vi i31), (12, .loc 2 0 l37.length), (13, vi i38), (14, vb qq), (15, vi i45)], stab [(0, .lst true none (List.map (D.int .u64) z29)), (1, .lst false none (List.map (eL none (D.int .u64)) l30)), (2, .lst false none (List.map (D.int .u64) l37))], 3⟩) 8 (fun (qq : Bool) => ⟨tab [(3, vp0 a1), (6, .loc 0 0 z29.length), (10, .loc 1 0 l30.length), (11, vi i31), (12, .loc 2 0 l37.length), (13, vi i38), (14, vb qq)], stab [(0, .lst true none (List.map (D.int .u64) z29)), (1, .lst false none (List.map (eL none (D.int .u64)) l30)), (2, .lst false none (List.map (D.int .u64) l37))], 3⟩) Low low_step hl (by unfold Low; omega) ?_ ?_ ?_
    ·
     rintro i45 y44 xr50 hinv48 hgo47 h
     show NWp _ _ _ _ _ ⟨tab [(3, vp0 a1), (6, .loc 0 0 z29.length), (10, .loc 1 0 l30.length), (11, vi i31), (12, .loc 2 0 l37.length), (13, vi i38), (14, vb y44), (15, vi i45)], stab [(0, .lst true none (List.map (D.int .u64) z29)), (1, .lst false none (List.map (eL none (D.int .u64)) l30)), (2, .lst false none (List.map (D.int .u64) l37))], 3⟩
     have hc49 : decide (i45 < (a1.Sets.length : Int)) = true := decide_eq_true hgo47
     refine NWp.seq ?_
     refine NWp.opsJ ⟨tab [(3, vp0 a1), (6, .loc 0 0 z29.length), (10, .loc 1 0 l30.length), (11, vi i31), (12, .loc 2 0 l37.length), (13, vi i38), (14, vb y44), (15, vi i45), (77, vi (a1.Sets.length : Int)), (78, vb (decide (i45 < (a1.Sets.length : Int))))], stab [(0, .lst true none (List.map (D.int .u64) z29)), (1, .lst false none (List.map (eL none (D.int .u64)) l30)), (2, .lst false none (List.map (D.int .u64) l37))], 3⟩ ?_ ?_
     ·
      iterate 3 refine q1 _ ?_
      refine step (v := vi (a1.Sets.length : Int)) (st_len (xs := a1.Sets) (e := (D.int .u64)) rfl) ?_
      refine q1 _ ?_
      exact nR [0, 1, 2]
     refine NWp.rng 77 rfl fun hB46 => ?_
     refine NWp.condT (t := decide (i45 < (a1.Sets.length : Int))) rfl hc49 ?_
     refine NWp.skip ?_
     refine NWp.seq ?_
     refine NWp.block ?_
     obtain ⟨y55, hv, h⟩ := bindE h
     refine NWp.opsE ⟨tab [(3, vp0 a1), (6, .loc 0 0 z29.length), (10, .loc 1 0 l30.length), (11, vi i31), (12, .loc 2 0 l37.length), (13, vi i38), (14, vb y55), (15, vi i45)], stab [(0, .lst true none (List.map (D.int .u64) z29)), (1, .lst false none (List.map (eL none (D.int .u64)) l30)), (2, .lst false none (List.map (D.int .u64) l37))], 3⟩ ?_ ?_
     ·
      iterate 2 refine q1 _ ?_
      by_cases hg51 : y44 = true
      ·
       replace hv := iteT hg51 hv
       refine qG _ hg51 ?_
       refine q1 _ ?_
       refine qG _ hg51 ?_
       refine q1 _ ?_
       refine qG _ hg51 ?_
       refine q1 _ ?_
       refine qG _ hg51 ?_
       refine q1 _ ?_
       by_cases hg52 : (i45 == i38) = true
       ·
        replace hv := iteT hg52 hv
        iterate 17 refine qX (i45 == i38) (by rw [hg52]; decide) ?_
        refine qG _ hg51 ?_
        refine step (v := vb true) (st_pickT (b := (i45 == i38)) rfl hg52 rfl) ?_
        refine step (v := vb true) (st_pickT (b := y44) rfl hg51 rfl) ?_
        refine q1 _ ?_
        have hh := Option.some.inj hv
        subst hh
        exact nR [0, 1, 2]
       ·
        replace hv := iteF hg52 hv
        obtain ⟨x53, hx53, hv⟩ := bindE hv
        obtain ⟨x54, hx54, hv⟩ := bindE hv
        refine qG (i45 == i38) (Bool.eq_false_iff.2 hg52) ?_
        refine q1 _ ?_
        refine qG (i45 == i38) (Bool.eq_false_iff.2 hg52) ?_
        refine q1 _ ?_
        refine qG (i45 == i38) (Bool.eq_false_iff.2 hg52) ?_
        refine q1 _ ?_
        refine qG (i45 == i38) (Bool.eq_false_iff.2 hg52) ?_
        refine step (v := .d (.cptr none (.int .u64 x53) 0)) (st_iaddr (xs := a1.Sets) (e := (D.int .u64)) hx53 rfl rfl) ?_
        refine qG (i45 == i38) (Bool.eq_false_iff.2 hg52) ?_
        refine q1 _ ?_
        refine qG (i45 == i38) (Bool.eq_false_iff.2 hg52) ?_
        refine q1 _ ?_
        refine qG (i45 == i38) (Bool.eq_false_iff.2 hg52) ?_
        refine q1 _ ?_
        refine qG (i45 == i38) (Bool.eq_false_iff.2 hg52) ?_
        refine q1 _ ?_
        refine qG (i45 == i38) (Bool.eq_false_iff.2 hg52) ?_
        refine step (v := .d (.cptr none (.int .u64 x54) 0)) (st_iaddr (xs := a1.Sets) (e := (D.int .u64)) hx54 rfl rfl) ?_
        refine qG (i45 == i38) (Bool.eq_false_iff.2 hg52) ?_
        refine q1 _ ?_
        refine qG (i45 == i38) (Bool.eq_false_iff.2 hg52) ?_
        refine q1 _ ?_
        refine qG (i45 == i38) (Bool.eq_false_iff.2 hg52) ?_
        refine q1 _ ?_
        refine qG (i45 == i38) (Bool.eq_false_iff.2 hg52) ?_
        refine q1 _ ?_
        refine qG (i45 == i38) (Bool.eq_false_iff.2 hg52) ?_
        refine q1 _ ?_
        refine qG (i45 == i38) (Bool.eq_false_iff.2 hg52) ?_
        refine step (v := .d (.cptr none (.int .u64 x53) 0)) (st_iaddr (xs := a1.Sets) (e := (D.int .u64)) hx53 rfl rfl) ?_
        refine qG (i45 == i38) (Bool.eq_false_iff.2 hg52) ?_
        refine q1 _ ?_
        refine qG (i45 == i38) (Bool.eq_false_iff.2 hg52) ?_
        refine q1 _ ?_
        refine qG _ hg51 ?_
        refine step (v := vb ((andI .u64 x53 x54) != x53)) (st_pickF (b := (i45 == i38)) rfl hg52 rfl) ?_
        refine step (v := vb ((andI .u64 x53 x54) != x53)) (st_pickT (b := y44) rfl hg51 rfl) ?_
        refine q1 _ ?_
        have hh := Option.some.inj hv
        subst hh
        exact nR [0, 1, 2]
      ·
       replace hv := iteF hg51 hv
       iterate 4 refine qX _ hg51 ?_
       refine stepXX rfl ?_
       refine stepXX rfl ?_
       refine stepXX rfl ?_
       refine stepXX rfl ?_
       refine stepXX rfl ?_
       refine stepXX rfl ?_
       refine stepXX rfl ?_
       refine stepXX rfl ?_
       refine stepXX rfl ?_
       refine stepXX rfl ?_
       refine stepXX rfl ?_
       refine stepXX rfl ?_
       refine stepXX rfl ?_
       refine stepXX rfl ?_
       refine stepXX rfl ?_
       refine stepXX rfl ?_
       refine stepXX rfl ?_
       refine qX _ hg51 ?_
       refine step (v := vb false) (st_pickF (b := y44) rfl hg51 rfl) ?_
       refine q1 _ ?_
       have hh := Option.some.inj hv
       subst hh
       exact nR [0, 1, 2]
     have hh := Option.some.inj h
     subst hh
     refine NWp.opsE ⟨tab [(3, vp0 a1), (6, .loc 0 0 z29.length), (10, .loc 1 0 l30.length), (11, vi i31), (12, .loc 2 0 l37.length), (13, vi i38), (14, vb y55), (15, vi (i45 + 1))], stab [(0, .lst true none (List.map (D.int .u64) z29)), (1, .lst false none (List.map (eL none (D.int .u64)) l30)), (2, .lst false none (List.map (D.int .u64) l37))], 3⟩ ?_ ?_
     ·
      refine q1 _ ?_
      refine step (v := vi (i45 + 1)) (st_inc (inc_ok hinv48 hgo47 hB46) rfl rfl) ?_
      refine q1 _ ?_
      exact nR [0, 1, 2]
     exact And.intro rfl rfl
    ·
     rintro i45 y44 hinv48 hgo47
     show NWp _ _ _ _ _ ⟨tab [(3, vp0 a1), (6, .loc 0 0 z29.length), (10, .loc 1 0 l30.length), (11, vi i31), (12, .loc 2 0 l37.length), (13, vi i38), (14, vb y44), (15, vi i45)], stab [(0, .lst true none (List.map (D.int .u64) z29)), (1, .lst false none (List.map (eL none (D.int .u64)) l30)), (2, .lst false none (List.map (D.int .u64) l37))], 3⟩
     have hc49 : ¬ (decide (i45 < (a1.Sets.length : Int)) = true) := fun hq => hgo47 (of_decide_eq_true hq)
     refine NWp.seq ?_
     refine NWp.opsJ ⟨tab [(3, vp0 a1), (6, .loc 0 0 z29.length), (10, .loc 1 0 l30.length), (11, vi i31), (12, .loc 2 0 l37.length), (13, vi i38), (14, vb y44), (15, vi i45), (78, vb (decide (i45 < (a1.Sets.length : Int))))], stab [(0, .lst true none (List.map (D.int .u64) z29)), (1, .lst false none (List.map (eL none (D.int .u64)) l30)), (2, .lst false none (List.map (D.int .u64) l37))], 3⟩ ?_ ?_
     ·
      iterate 3 refine q1 _ ?_
      refine step (v := vi (a1.Sets.length : Int)) (st_len (xs := a1.Sets) (e := (D.int .u64)) rfl) ?_
      refine q1 _ ?_
      exact nR [0, 1, 2]
     refine NWp.condF (t := decide (i45 < (a1.Sets.length : Int))) rfl hc49 ?_
     refine NWp.norm (s0 := ⟨tab [(3, vp0 a1), (6, .loc 0 0 z29.length), (10, .loc 1 0 l30.length), (11, vi i31), (12, .loc 2 0 l37.length), (13, vi i38), (14, vb y44)], stab [(0, .lst true none (List.map (D.int .u64) z29)), (1, .lst false none (List.map (eL none (D.int .u64)) l30)), (2, .lst false none (List.map (D.int .u64) l37))], 3⟩) (nr [0, 1, 2]) ?_
     refine NWp.exit ?_
     exact And.intro rfl rfl
    refine NWp.opsJ ⟨tab [(3, vp0 a1), (6, .loc 0 0 z29.length), (10, .loc 1 0 l30.length), (11, vi i31), (12, .loc 2 0 l37.length), (13, vi i38), (106, vb z57)], stab [(0, .lst true none (List.map (D.int .u64) z29)), (1, .lst false none (List.map (eL none (D.int .u64)) l30)), (2, .lst false none (List.map (D.int .u64) l37))], 3⟩ ?_ ?_
    ·
     refine q1 _ ?_
     exact nR [0, 1, 2]
    by_cases hc58 : z57 = true
    ·
     replace h := iteT hc58 h
     refine NWp.condT (t := z57) rfl hc58 ?_
     obtain ⟨x59, hx59, h⟩ := bindE h
     obtain ⟨x60, hx60, h⟩ := bindE h
     obtain ⟨r61, hr61, h⟩ := bindE h
     have hh := Option.some.inj h
     subst hh
     refine NWp.opsE ⟨tab [(3, vp0 a1), (6, .loc 0 0 z29.length), (10, .loc 1 0 l30.length), (11, vi i31), (12, .loc 2 0 r61.length), (13, vi i38)], stab [(0, .lst true none (List.map (D.int .u64) z29)), (1, .lst false none (List.map (eL none (D.int .u64)) l30)), (2, .lst false none (List.map (D.int .u64) r61))], 3⟩ ?_ ?_
     ·
      iterate 4 refine q1 _ ?_
      refine step (v := .d (.cptr none (.int .u64 x59) 0)) (st_iaddr (xs := a1.Sets) (e := (D.int .u64)) hx59 rfl rfl) ?_
      iterate 3 refine q1 _ ?_
      refine step (v := .ptr 0 i31.toNat 0) (st_iaddrL (xs := z29) (e := (D.int .u64)) hx60 rfl rfl rfl rfl) ?_
      refine step (v := .d (.int .u64 x60)) (st_loadL (xs := z29) (e := (D.int .u64)) hx60 rfl rfl rfl) ?_
      refine q1 _ ?_
      refine stepW (v := .loc 3 0 r61.length) (σ' := (upd (upd (stab [(0, .lst true none (List.map (D.int .u64) z29)), (1, .lst false none (List.map (eL none (D.int .u64)) l30)), (2, .lst false none (List.map (D.int .u64) l37))]) 2 none) 3 (some (.lst false none (List.map (D.int .u64) r61))))) (n' := 4) (SCall.lift [2] (c_ref12_add hr61) (show 1 ≤ 2 by decide) (by decide) (show ∀ i ∈ [2], i < 3 by decide) (dom_c (show 1 < 2 by decide) dom_n) (VNs.c (.lc 0) (VNs.c (.d _) VNs.nil0)) (SN.c (show 0 < 1 by decide) rfl (.lst _ _ _) SN.nil0)) (show 3 ≤ 4 by decide) ?_
      refine q1 _ ?_
      exact nR [0, 1, 3]
     exact And.intro rfl rfl
    ·
     replace h := iteF hc58 h
     refine NWp.condF (t := z57) rfl hc58 ?_
     have hh := Option.some.inj h
     subst hh
     refine NWp.norm (s0 := ⟨tab [(3, vp0 a1), (6, .loc 0 0 z29.length), (10, .loc 1 0 l30.length), (11, vi i31), (12, .loc 2 0 l37.length), (13, vi i38)], stab [(0, .lst true none (List.map (D.int .u64) z29)), (1, .lst false none (List.map (eL none (D.int .u64)) l30)), (2, .lst false none (List.map (D.int .u64) l37))], 3⟩) (nr [0, 1, 2]) ?_
     refine NWp.skip ?_
     exact And.intro rfl rfl
   have hh := Option.some.inj h
   subst hh
   refine NWp.opsE ⟨tab [(3, vp0 a1), (6, .loc 0 0 z29.length), (10, .loc 1 0 l30.length), (11, vi i31), (12, .loc 2 0 l63.length), (13, vi (i38 + 1))], stab [(0, .lst true none (List.map (D.int .u64) z29)), (1, .lst false none (List.map (eL none (D.int .u64)) l30)), (2, .lst false none (List.map (D.int .u64) l63))], 3⟩ ?_ ?_
   ·
    refine q1 _ ?_
    refine step (v := vi (i38 + 1)) (st_inc (inc_ok hinv41 hgo40 hB39) rfl rfl) ?_
    refine q1 _ ?_
    exact nR [0, 1, 2]
   exact And.intro rfl rfl
  ·
   rintro i38 l37 hinv41 hgo40
   show NWp _ _ _ _ _ ⟨tab [(3, vp0 a1), (6, .loc 0 0 z29.length), (10, .loc 1 0 l30.length), (11, vi i31), (12, .loc 2 0 l37.length), (13, vi i38)], stab [(0, .lst true none (List.map (D.int .u64) z29)), (1, .lst false none (List.map (eL none (D.int .u64)) l30)), (2, .lst false none (List.map (D.int .u64) l37))], 3⟩
   have hc42 : ¬ (decide (i38 < (a1.Sets.length : Int)) = true) := fun hq => hgo40 (of_decide_eq_true hq)
   refine NWp.seq ?_
   refine NWp.opsJ ⟨tab [(3, vp0 a1), (6, .loc 0 0 z29.length), (10, .loc 1 0 l30.length), (11, vi i31), (12, .loc 2 0 l37.length), (13, vi i38), (71, vb (decide (i38 < (a1.Sets.length : Int))))], stab [(0, .lst true none (List.map (D.int .u64) z29)), (1, .lst false none (List.map (eL none (D.int .u64)) l30)), (2, .lst false none (List.map (D.int .u64) l37))], 3⟩ ?_ ?_
   ·
    iterate 3 refine q1 _ ?_
    refine step (v := vi (a1.Sets.length : Int)) (st_len (xs := a1.Sets) (e := (D.int .u64)) rfl) ?_
    refine q1 _ ?_
    exact nR [0, 1, 2]
   refine NWp.condF (t := decide (i38 < (a1.Sets.length : Int))) rfl hc42 ?_
   refine NWp.norm (s0 := ⟨tab [(3, vp0 a1), (6, .loc 0 0 z29.length), (10, .loc 1 0 l30.length), (11, vi i31), (12, .loc 2 0 l37.length)], stab [(0, .lst true none (List.map (D.int .u64) z29)), (1, .lst false none (List.map (eL none (D.int .u64)) l30)), (2, .lst false none (List.map (D.int .u64) l37))], 3⟩) (nr [0, 1, 2]) ?_
   refine NWp.exit ?_
   exact And.intro rfl rfl
  obtain ⟨l66, hl66, h⟩ := bindE h
  refine NWp.opsE ⟨tab [(3, vp0 a1), (6, .loc 0 0 z29.length), (10, .loc 1 0 l66.length), (11, vi i31)], stab [(0, .lst true none (List.map (D.int .u64) z29)), (1, .lst false none (List.map (eL none (D.int .u64)) l66))], 2⟩ ?_ ?_
  ·
   iterate 2 refine q1 _ ?_
   refine step (v := .loc 3 0 (([z65] : List (List Int)).length)) (σ' := (upd (stab [(0, .lst true none (List.map (D.int .u64) z29)), (1, .lst false none (List.map (eL none (D.int .u64)) l30)), (2, .lst false none (List.map (D.int .u64) z65))]) 3 (some (.lst false none (List.map (eL none (D.int .u64)) ([z65] : List (List Int))))))) (n' := 4) (st_bsliceV (ds := List.map (eL none (D.int .u64)) ([z65] : List (List Int))) (optC (f := fun x => viewA _ (evT _ x)) (va_l (xs := z65) (e := (D.int .u64)) rfl rfl) optN) rfl) ?_
   refine step (v := .loc 4 0 l66.length) (σ' := (upd (upd (upd (stab [(0, .lst true none (List.map (D.int .u64) z29)), (1, .lst false none (List.map (eL none (D.int .u64)) l30)), (2, .lst false none (List.map (D.int .u64) z65))]) 3 (some (.lst false none (List.map (eL none (D.int .u64)) ([z65] : List (List Int)))))) 1 none) 4 (some (.lst false none (List.map (eL none (D.int .u64)) l66))))) (n' := 5) (st_app (xs := l30) (ys := ([z65] : List (List Int))) (e := (eL none (D.int .u64))) hl66 rfl rfl rfl (src_l (xs := ([z65] : List (List Int))) (e := (eL none (D.int .u64))) rfl rfl rfl)) ?_
   refine q1 _ ?_
   exact nR [0, 4]
  have hh := Option.some.inj h
  subst hh
  refine NWp.opsE ⟨tab [(3, vp0 a1), (6, .loc 0 0 z29.length), (10, .loc 1 0 l66.length), (11, vi (i31 + 1))], stab [(0, .lst true none (List.map (D.int .u64) z29)), (1, .lst false none (List.map (eL none (D.int .u64)) l66))], 2⟩ ?_ ?_
  ·
   refine q1 _ ?_
   refine step (v := vi (i31 + 1)) (st_inc (inc_ok hinv34 hgo33 hB32) rfl rfl) ?_
   refine q1 _ ?_
   exact nR [0, 1]
  exact And.intro rfl rfl
 ·
  rintro i31 l30 hinv34 hgo33
  show NWp _ _ _ _ _ ⟨tab [(3, vp0 a1), (6, .loc 0 0 z29.length), (10, .loc 1 0 l30.length), (11, vi i31)], stab [(0, .lst true none (List.map (D.int .u64) z29)), (1, .lst false none (List.map (eL none (D.int .u64)) l30))], 2⟩
  have hc35 : ¬ (decide (i31 < (z29.length : Int)) = true) := fun hq => hgo33 (of_decide_eq_true hq)
  refine NWp.seq ?_
  refine NWp.opsJ ⟨tab [(3, vp0 a1), (6, .loc 0 0 z29.length), (10, .loc 1 0 l30.length), (11, vi i31), (64, vb (decide (i31 < (z29.length : Int))))], stab [(0, .lst true none (List.map (D.int .u64) z29)), (1, .lst false none (List.map (eL none (D.int .u64)) l30))], 2⟩ ?_ ?_
  ·
   iterate 4 refine q1 _ ?_
   exact nR [0, 1]
  refine NWp.condF (t := decide (i31 < (z29.length : Int))) rfl hc35 ?_
  refine NWp.norm (s0 := ⟨tab [(10, .loc 0 0 l30.length)], stab [(0, .lst false none (List.map (eL none (D.int .u64)) l30))], 1⟩) (nr [1]) ?_
  refine NWp.exit ?_
  exact And.intro rfl rfl
 refine NWp.opsJ ⟨tab [(4, .loc 0 0 z68.length)], stab [(0, .lst false none (List.map (eL none (D.int .u64)) z68))], 1⟩ ?_ ?_
 ·
  iterate 2 refine q1 _ ?_
  exact nR [0]
 have hh := Option.some.inj h
 subst hh
 refine NWp.ret ?_
 show FQ _ _ _ _
 exact FQ.mk1 (.inr rfl) (res_t (v := .loc 0 0 z68.length) rfl rfl) (RV.loc (xs := z68) (e := (eL none (D.int .u64))) rfl rfl trivial)

theorem c_ref12_local {a0 : api_Program} {a1 : api_Nes} {r : Int} (h : ref12_local a0 a1 = some r) : PCall Tryd.prog 25 [eapi_Program a0, eapi_Nes a1] (.int .i64 r) := by
 refine PCall.introN ok25 (show 2 ≤ 84 by decide) ?_
 refine NWp.norm (s0 := ⟨tab [(0, vs2 a0), (1, vs1 a1)], stab [], 0⟩) (nr []) ?_
 refine NWp.opsJ ⟨tab [(2, vp2 a0), (3, vp0 a1)], stab [], 0⟩ ?_ ?_
 ·
  iterate 3 refine q1 _ ?_
  exact nR []
 obtain ⟨r1, hr1, h⟩ := bindE h
 refine NWp.opsJ ⟨tab [(3, vp0 a1), (5, .d (eL none (eL none (D.int .u64)) r1))], stab [], 0⟩ ?_ ?_
 ·
  iterate 2 refine q1 _ ?_
  refine stepC (r := eL none (eL none (D.int .u64)) r1) (ArgsOk.dt (ArgsOk.dt ArgsOk.nil')) (c_ref12_parts hr1) ?_
  refine q1 _ ?_
  exact nR []
 refine NWp.opsJ ⟨tab [(3, vp0 a1), (5, .d (eL none (eL none (D.int .u64)) r1)), (6, vi 1)], stab [], 0⟩ ?_ ?_
 ·
  refine q1 _ ?_
  exact nR []
 refine NWp.seq ?_
 refine NWp.opsJ ⟨tab [(3, vp0 a1), (5, .d (eL none (eL none (D.int .u64)) r1)), (6, vi 1), (7, vi 0)], stab [], 0⟩ ?_ ?_
 ·
  refine q1 _ ?_
  exact nR []
 obtain ⟨z10, hl, h⟩ := bindE h
 refine NWp.block ?_
 refine loop_forO (cntU (r1.length : Int)) (fun (i3 : Int) (qq : Int) => ⟨tab [(3, vp0 a1), (5, .d (eL none (eL none (D.int .u64)) r1)), (6, vi qq), (7, vi i3)], stab [], 0⟩) 0 (fun (qq : Int) => ⟨tab [(3, vp0 a1), (5, .d (eL none (eL none (D.int .u64)) r1)), (6, vi qq)], stab [], 0⟩) Low low_step hl (by unfold Low; omega) ?_ ?_ ?_
 ·
  rintro i3 i2 xr8 hinv6 hgo5 h
  show NWp _ _ _ _ _ ⟨tab [(3, vp0 a1), (5, .d (eL none (eL none (D.int .u64)) r1)), (6, vi i2), (7, vi i3)], stab [], 0⟩
  have hc7 : decide (i3 < (r1.length : Int)) = true := decide_eq_true hgo5
  refine NWp.seq ?_
  refine NWp.opsJ ⟨tab [(3, vp0 a1), (5, .d (eL none (eL none (D.int .u64)) r1)), (6, vi i2), (7, vi i3), (19, vi (r1.length : Int)), (20, vb (decide (i3 < (r1.length : Int))))], stab [], 0⟩ ?_ ?_
  ·
   iterate 2 refine q1 _ ?_
   refine step (v := vi (r1.length : Int)) (st_len (xs := r1) (e := (eL none (D.int .u64))) rfl) ?_
   refine q1 _ ?_
   exact nR []
  refine NWp.rng 19 rfl fun hB4 => ?_
  refine NWp.condT (t := decide (i3 < (r1.length : Int))) rfl hc7 ?_
  refine NWp.skip ?_
  refine NWp.seq ?_
  refine NWp.block ?_
  obtain ⟨x9, hx9, h⟩ := bindE h
  refine NWp.opsE ⟨tab [(3, vp0 a1), (5, .d (eL none (eL none (D.int .u64)) r1)), (6, vi (imin (IntKind.i64.wrap (i2 * (x9.length : Int))) 20001)), (7, vi i3)], stab [], 0⟩ ?_ ?_
  ·
   iterate 3 refine q1 _ ?_
   refine step (v := .d (.cptr none (eL none (D.int .u64) x9) 0)) (st_iaddr (xs := r1) (e := (eL none (D.int .u64))) hx9 rfl rfl) ?_
   refine q1 _ ?_
   refine step (v := vi (x9.length : Int)) (st_len (xs := x9) (e := (D.int .u64)) rfl) ?_
   iterate 3 refine q1 _ ?_
   exact nR []
  have hh := Option.some.inj h
  subst hh
  refine NWp.opsE ⟨tab [(3, vp0 a1), (5, .d (eL none (eL none (D.int .u64)) r1)), (6, vi (imin (IntKind.i64.wrap (i2 * (x9.length : Int))) 20001)), (7, vi (i3 + 1))], stab [], 0⟩ ?_ ?_
  ·
   refine q1 _ ?_
   refine step (v := vi (i3 + 1)) (st_inc (inc_ok hinv6 hgo5 hB4) rfl rfl) ?_
   refine q1 _ ?_
   exact nR []
  exact And.intro rfl rfl
 ·
  rintro i3 i2 hinv6 hgo5
  show NWp _ _ _ _ _ ⟨tab [(3, vp0 a1), (5, .d (eL none (eL none (D.int .u64)) r1)), (6, vi i2), (7, vi i3)], stab [], 0⟩
  have hc7 : ¬ (decide (i3 < (r1.length : Int)) = true) := fun hq => hgo5 (of_decide_eq_true hq)
  refine NWp.seq ?_
  refine NWp.opsJ ⟨tab [(3, vp0 a1), (5, .d (eL none (eL none (D.int .u64)) r1)), (6, vi i2), (7, vi i3), (20, vb (decide (i3 < (r1.length : Int))))], stab [], 0⟩ ?_ ?_
  ·
   iterate 2 refine q1 _ ?_
   refine step (v := vi (r1.length : Int)) (st_len (xs := r1) (e := (eL none (D.int .u64))) rfl) ?_
   refine q1 _ ?_
   exact nR []
  refine NWp.condF (t := decide (i3 < (r1.length : Int))) rfl hc7 ?_
  refine NWp.norm (s0 := ⟨tab [(3, vp0 a1), (5, .d (eL none (eL none (D.int .u64)) r1)), (6, vi i2)], stab [], 0⟩) (nr []) ?_
  refine NWp.exit ?_
  exact And.intro rfl rfl
 refine NWp.seq ?_
 refine NWp.opsJ ⟨tab [(3, vp0 a1), (5, .d (eL none (eL none (D.int .u64)) r1)), (32, vb (decide (z10 > 20000)))], stab [], 0⟩ ?_ ?_
 ·
  iterate 2 refine q1 _ ?_
  exact nR []
 by_cases hc11 : decide (z10 > 20000) = true
 ·
  replace h := iteT hc11 h
  refine NWp.condT (t := decide (z10 > 20000)) rfl hc11 ?_
  refine NWp.opsJ ⟨tab [(4, vi 21)], stab [], 0⟩ ?_ ?_
  ·
   refine q1 _ ?_
   exact nR []
  have hh := Option.some.inj h
  subst hh
  refine NWp.ret ?_
  show FQ _ _ _ _
  exact FQ.mk1 (.inr rfl) (res_t (v := vi 21) rfl rfl) (RV.d trivial)
 ·
  replace h := iteF hc11 h
  refine NWp.condF (t := decide (z10 > 20000)) rfl hc11 ?_
  refine NWp.skip ?_
  refine NWp.opsJ ⟨tab [(3, vp0 a1), (5, .d (eL none (eL none (D.int .u64)) r1)), (8, vl0 ([0] : List Int))], stab [], 0⟩ ?_ ?_
  ·
   iterate 2 refine q1 _ ?_
   exact nR []
  refine NWp.seq ?_
  refine NWp.opsJ ⟨tab [(3, vp0 a1), (5, .d (eL none (eL none (D.int .u64)) r1)), (8, vl0 ([0] : List Int)), (9, vi 0)], stab [], 0⟩ ?_ ?_
  ·
   refine q1 _ ?_
   exact nR []
  obtain ⟨z41, hl, h⟩ := bindE h
  refine NWp.block ?_
  refine loop_forO (cntU (r1.length : Int)) (fun (i13 : Int) (qq : (List Int)) => ⟨tab [(3, vp0 a1), (5, .d (eL none (eL none (D.int .u64)) r1)), (8, vl0 qq), (9, vi i13)], stab [], 0⟩) 2 (fun (qq : (List Int)) => ⟨tab [(3, vp0 a1), (8, vl0 qq)], stab [], 0⟩) Low low_step hl (by unfold Low; omega) ?_ ?_ ?_
  ·
   rintro i13 y12 xr18 hinv16 hgo15 h
   show NWp _ _ _ _ _ ⟨tab [(3, vp0 a1), (5, .d (eL none (eL none (D.int .u64)) r1)), (8, vl0 y12), (9, vi i13)], stab [], 0⟩
   have hc17 : decide (i13 < (r1.length : Int)) = true := decide_eq_true hgo15
   refine NWp.seq ?_
   refine NWp.opsJ ⟨tab [(3, vp0 a1), (5, .d (eL none (eL none (D.int .u64)) r1)), (8, vl0 y12), (9, vi i13), (36, vi (r1.length : Int)), (37, vb (decide (i13 < (r1.length : Int))))], stab [], 0⟩ ?_ ?_
   ·
    iterate 2 refine q1 _ ?_
    refine step (v := vi (r1.length : Int)) (st_len (xs := r1) (e := (eL none (D.int .u64))) rfl) ?_
    refine q1 _ ?_
    exact nR []
   refine NWp.rng 36 rfl fun hB14 => ?_
   refine NWp.condT (t := decide (i13 < (r1.length : Int))) rfl hc17 ?_
   refine NWp.skip ?_
   refine NWp.seq ?_
   refine NWp.block ?_
   refine NWp.opsJ ⟨tab [(3, vp0 a1), (5, .d (eL none (eL none (D.int .u64)) r1)), (8, vl0 y12), (9, vi i13), (10, .d (.nils))], stab [], 0⟩ ?_ ?_
   ·
    refine q1 _ ?_
    exact nR []
   refine NWp.seq ?_
   refine NWp.opsJ ⟨tab [(3, vp0 a1), (5, .d (eL none (eL none (D.int .u64)) r1)), (8, vl0 y12), (9, vi i13), (10, .d (.nils)), (11, vi 0)], stab [], 0⟩ ?_ ?_
   ·
    refine q1 _ ?_
    exact nR []
   obtain ⟨z39, hl, h⟩ := bindE h
   refine NWp.norm (s0 := ⟨tab [(3, vp0 a1), (5, .d (eL none (eL none (D.int .u64)) r1)), (8, vl0 y12), (9, vi i13), (10, .loc 0 0 (([] : List Int).length)), (11, vi 0)], stab [(0, .lst false none (List.map (D.int .u64) ([] : List Int)))], 1⟩) (Norm.trans (s2 := ⟨tab [(3, vp0 a1), (5, .d (eL none (eL none (D.int .u64)) r1)), (8, vl0 y12), (9, vi i13), (10, .loc 0 0 (([] : List Int).length)), (11, vi 0)], stab [(0, .lst false none (List.map (D.int .u64) ([] : List Int)))], 1⟩) (Norm.nil1 10 false none rfl) (nr [0])) ?_
   refine NWp.block ?_
   refine loop_forO (cntU (y12.length : Int)) (fun (i20 : Int) (qq : (List Int)) => ⟨tab [(3, vp0 a1), (5, .d (eL none (eL none (D.int .u64)) r1)), (8, vl0 y12), (9, vi i13), (10, .loc 0 0 qq.length), (11, vi i20)], stab [(0, .lst false none (List.map (D.int .u64) qq))], 1⟩) 4 (fun (qq : (List Int)) => ⟨tab [(3, vp0 a1), (5, .d (eL none (eL none (D.int .u64)) r1)), (9, vi i13), (10, .loc 0 0 qq.length)], stab [(0, .lst false none (List.map (D.int .u64) qq))], 1⟩) Low low_step hl (by unfold Low; omega) ?_ ?_ ?_
   ·
    rintro i20 l19 xr25 hinv23 hgo22 h
    show NWp _ _ _ _ _ ⟨tab [(3, vp0 a1), (5, .d (eL none (eL none (D.int .u64)) r1)), (8, vl0 y12), (9, vi i13), (10, .loc 0 0 l19.length), (11, vi i20)], stab [(0, .lst false none (List.map (D.int .u64) l19))], 1⟩
    have hc24 : decide (i20 < (y12.length : Int)) = true := decide_eq_true hgo22
    refine NWp.seq ?_
    refine NWp.opsJ ⟨tab [(3, vp0 a1), (5, .d (eL none (eL none (D.int .u64)) r1)), (8, vl0 y12), (9, vi i13), (10, .loc 0 0 l19.length), (11, vi i20), (42, vi (y12.length : Int)), (43, vb (decide (i20 < (y12.length : Int))))], stab [(0, .lst false none (List.map (D.int .u64) l19))], 1⟩ ?_ ?_
    ·
     iterate 2 refine q1 _ ?_
     refine step (v := vi (y12.length : Int)) (st_len (xs := y12) (e := (D.int .u64)) rfl) ?_
     refine q1 _ ?_
     exact nR [0]
    refine NWp.rng 42 rfl fun hB21 => ?_
    refine NWp.condT (t := decide (i20 < (y12.length : Int))) rfl hc24 ?_
    refine NWp.skip ?_
    refine NWp.seq ?_
    refine NWp.block ?_
    refine NWp.opsJ ⟨tab [(3, vp0 a1), (5, .d (eL none (eL none (D.int .u64)) r1)), (8, vl0 y12), (9, vi i13), (10, .loc 0 0 l19.length), (11, vi i20), (12, vi 0)], stab [(0, .lst false none (List.map (D.int .u64) l19))], 1⟩ ?_ ?_
    ·
     refine q1 _ ?_
     exact nR [0]
    obtain ⟨x28, hx28, h⟩ := bindE h
    obtain ⟨z37, hl, h⟩ := bindE h
    refine NWp.block ?_
    refine loop_forO (cntU (x28.length : Int)) (fun (i27 : Int) (qq : (List Int)) => ⟨tab [(3, vp0 a1), (5, .d (eL none (eL none (D.int .u64)) r1)), (8, vl0 y12), (9, vi i13), (10, .loc 0 0 qq.length), (11, vi i20), (12, vi i27)], stab [(0, .lst false none (List.map (D.int .u64) qq))], 1⟩) 6 (fun (qq : (List Int)) => ⟨tab [(3, vp0 a1), (5, .d (eL none (eL none (D.int .u64)) r1)), (8, vl0 y12), (9, vi i13), (10, .loc 0 0 qq.length), (11, vi i20)], stab [(0, .lst false none (List.map (D.int .u64) qq))], 1⟩) Low low_step hl (by unfold Low; omega) ?_ ?_ ?_
    ·
     rintro i27 l26 xr33 hinv31 hgo30 h
     show NWp _ _ _ _ _ ⟨tab [(3, vp0 a1), (5, .d (eL none (eL none (D.int .u64)) r1)), (8, vl0 y12), (9, vi i13), (10, .loc 0 0 l26.length), (11, vi i20), (12, vi i27)], stab [(0, .lst false none (List.map (D.int .u64) l26))], 1⟩
     have hc32 : decide (i27 < (x28.length : Int)) = true := decide_eq_true hgo30
     refine NWp.seq ?_
     refine NWp.opsJ ⟨tab [(3, vp0 a1), (5, .d (eL none (eL none (D.int .u64)) r1)), (8, vl0 y12), (9, vi i13), (10, .loc 0 0 l26.length), (11, vi i20), (12, vi i27), (51, vi (x28.length : Int)), (52, vb (decide (i27 < (x28.length : Int))))], stab [(0, .lst false none (List.map (D.int .u64) l26))], 1⟩ ?_ ?_
     ·
      iterate 3 refine q1 _ ?_
      refine step (v := .d (.cptr none (eL none (D.int .u64) x28) 0)) (st_iaddr (xs := r1) (e := (eL none (D.int .u64))) hx28 rfl rfl) ?_
      refine q1 _ ?_
      refine step (v := vi (x28.length : Int)) (st_len (xs := x28) (e := (D.int .u64)) rfl) ?_
      refine q1 _ ?_
      exact nR [0]
     refine NWp.rng 51 rfl fun hB29 => ?_
     refine NWp.condT (t := decide (i27 < (x28.length : Int))) rfl hc32 ?_
     refine NWp.skip ?_
     refine NWp.seq ?_
     refine NWp.block ?_
     obtain ⟨x34, hx34, h⟩ := bindE h
     obtain ⟨x35, hx35, h⟩ := bindE h
     obtain ⟨l36, hl36, h⟩ := bindE h
     refine NWp.opsE ⟨tab [(3, vp0 a1), (5, .d (eL none (eL none (D.int .u64)) r1)), (8, vl0 y12), (9, vi i13), (10, .loc 0 0 l36.length), (11, vi i20), (12, vi i27)], stab [(0, .lst false none (List.map (D.int .u64) l36))], 1⟩ ?_ ?_
     ·
      iterate 3 refine q1 _ ?_
      refine step (v := .d (.cptr none (.int .u64 x34) 0)) (st_iaddr (xs := y12) (e := (D.int .u64)) hx34 rfl rfl) ?_
      iterate 3 refine q1 _ ?_
      refine step (v := .d (.cptr none (eL none (D.int .u64) x28) 0)) (st_iaddr (xs := r1) (e := (eL none (D.int .u64))) hx28 rfl rfl) ?_
      iterate 2 refine q1 _ ?_
      refine step (v := .d (.cptr none (.int .u64 x35) 0)) (st_iaddr (xs := x28) (e := (D.int .u64)) hx35 rfl rfl) ?_
      iterate 3 refine q1 _ ?_
      refine step (v := .loc 1 0 l36.length) (σ' := (upd (upd (stab [(0, .lst false none (List.map (D.int .u64) l26))]) 0 none) 1 (some (.lst false none (List.map (D.int .u64) l36))))) (n' := 2) (st_app (xs := l26) (ys := ([orI .u64 x34 x35] : List Int)) (e := (D.int .u64)) hl36 rfl rfl rfl (src_v (xs := ([orI .u64 x34 x35] : List Int)) (e := (D.int .u64)) rfl)) ?_
      refine q1 _ ?_
      exact nR [1]
     have hh := Option.some.inj h
     subst hh
     refine NWp.opsE ⟨tab [(3, vp0 a1), (5, .d (eL none (eL none (D.int .u64)) r1)), (8, vl0 y12), (9, vi i13), (10, .loc 0 0 l36.length), (11, vi i20), (12, vi (i27 + 1))], stab [(0, .lst false none (List.map (D.int .u64) l36))], 1⟩ ?_ ?_
     ·
      refine q1 _ ?_
      refine step (v := vi (i27 + 1)) (st_inc (inc_ok hinv31 hgo30 hB29) rfl rfl) ?_
      refine q1 _ ?_
      exact nR [0]
     exact And.intro rfl rfl
    ·
     rintro i27 l26 hinv31 hgo30
     show NWp _ _ _ _ _ ⟨tab [(3, vp0 a1), (5, .d (eL none (eL none (D.int .u64)) r1)), (8, vl0 y12), (9, vi i13), (10, .loc 0 0 l26.length), (11, vi i20), (12, vi i27)], stab [(0, .lst false none (List.map (D.int .u64) l26))], 1⟩
     have hc32 : ¬ (decide (i27 < (x28.length : Int)) = true) := fun hq => hgo30 (of_decide_eq_true hq)
     refine NWp.seq ?_
     refine NWp.opsJ ⟨tab [(3, vp0 a1), (5, .d (eL none (eL none (D.int .u64)) r1)), (8, vl0 y12), (9, vi i13), (10, .loc 0 0 l26.length), (11, vi i20), (12, vi i27), (52, vb (decide (i27 < (x28.length : Int))))], stab [(0, .lst false none (List.map (D.int .u64) l26))], 1⟩ ?_ ?_
     ·
      iterate 3 refine q1 _ ?_
      refine step (v := .d (.cptr none (eL none (D.int .u64) x28) 0)) (st_iaddr (xs := r1) (e := (eL none (D.int .u64))) hx28 rfl rfl) ?_
      refine q1 _ ?_
      refine step (v := vi (x28.length : Int)) (st_len (xs := x28) (e := (D.int .u64)) rfl) ?_
      refine q1 _ ?_
      exact nR [0]
     refine NWp.condF (t := decide (i27 < (x28.length : Int))) rfl hc32 ?_
     refine NWp.norm (s0 := ⟨tab [(3, vp0 a1), (5, .d (eL none (eL none (D.int .u64)) r1)), (8, vl0 y12), (9, vi i13), (10, .loc 0 0 l26.length), (11, vi i20)], stab [(0, .lst false none (List.map (D.int .u64) l26))], 1⟩) (nr [0]) ?_
     refine NWp.exit ?_
     exact And.intro rfl rfl
    have hh := Option.some.inj h
    subst hh
    refine NWp.opsE ⟨tab [(3, vp0 a1), (5, .d (eL none (eL none (D.int .u64)) r1)), (8, vl0 y12), (9, vi i13), (10, .loc 0 0 z37.length), (11, vi (i20 + 1))], stab [(0, .lst false none (List.map (D.int .u64) z37))], 1⟩ ?_ ?_
    ·
     refine q1 _ ?_
     refine step (v := vi (i20 + 1)) (st_inc (inc_ok hinv23 hgo22 hB21) rfl rfl) ?_
     refine q1 _ ?_
     exact nR [0]
    exact And.intro rfl rfl
   ·
    rintro i20 l19 hinv23 hgo22
    show NWp _ _ _ _ _ ⟨tab [(3, vp0 a1), (5, .d (eL none (eL none (D.int .u64)) r1)), (8, vl0 y12), (9, vi i13), (10, .loc 0 0 l19.length), (11, vi i20)], stab [(0, .lst false none (List.map (D.int .u64) l19))], 1⟩
    have hc24 : ¬ (decide (i20 < (y12.length : Int)) = true) := fun hq => hgo22 (of_decide_eq_true hq)
    refine NWp.seq ?_
    refine NWp.opsJ ⟨tab [(3, vp0 a1), (5, .d (eL none (eL none (D.int .u64)) r1)), (8, vl0 y12), (9, vi i13), (10, .loc 0 0 l19.length), (11, vi i20), (43, vb (decide (i20 < (y12.length : Int))))], stab [(0, .lst false none (List.map (D.int .u64) l19))], 1⟩ ?_ ?_
    ·
     iterate 2 refine q1 _ ?_
     refine step (v := vi (y12.length : Int)) (st_len (xs := y12) (e := (D.int .u64)) rfl) ?_
     refine q1 _ ?_
     exact nR [0]
    refine NWp.condF (t := decide (i20 < (y12.length : Int))) rfl hc24 ?_
    refine NWp.norm (s0 := ⟨tab [(3, vp0 a1), (5, .d (eL none (eL none (D.int .u64)) r1)), (9, vi i13), (10, .loc 0 0 l19.length)], stab [(0, .lst false none (List.map (D.int .u64) l19))], 1⟩) (nr [0]) ?_
    refine NWp.exit ?_
    exact And.intro rfl rfl
   refine NWp.opsE ⟨tab [(3, vp0 a1), (5, .d (eL none (eL none (D.int .u64)) r1)), (8, .loc 0 0 z39.length), (9, vi i13)], stab [(0, .lst false none (List.map (D.int .u64) z39))], 1⟩ ?_ ?_
   ·
    iterate 2 refine q1 _ ?_
    exact nR [0]
   have hh := Option.some.inj h
   subst hh
   refine NWp.opsE ⟨tab [(3, vp0 a1), (5, .d (eL none (eL none (D.int .u64)) r1)), (8, vl0 z39), (9, vi (i13 + 1))], stab [], 0⟩ ?_ ?_
   ·
    refine q1 _ ?_
    refine step (v := vi (i13 + 1)) (st_inc (inc_ok hinv16 hgo15 hB14) rfl rfl) ?_
    refine q1 _ ?_
    exact RunOps.nil' (Norm.trans (s2 := ⟨tab [(3, vp0 a1), (5, .d (eL none (eL none (D.int .u64)) r1)), (8, vl0 z39), (9, vi (i13 + 1))], stab [], 0⟩) (Norm.imm1 [8] (id := 0) (m := false) (k := none) (xs := z39) (e := (D.int .u64)) rfl (fun t ht => by cases ht with | head => exact ⟨_, rfl, rfl⟩ | tail _ h => cases h)) (nr []))
   exact And.intro rfl rfl
  ·
   rintro i13 y12 hinv16 hgo15
   show NWp _ _ _ _ _ ⟨tab [(3, vp0 a1), (5, .d (eL none (eL none (D.int .u64)) r1)), (8, vl0 y12), (9, vi i13)], stab [], 0⟩
   have hc17 : ¬ (decide (i13 < (r1.length : Int)) = true) := fun hq => hgo15 (of_decide_eq_true hq)
   refine NWp.seq ?_
   refine NWp.opsJ ⟨tab [(3, vp0 a1), (5, .d (eL none (eL none (D.int .u64)) r1)), (8, vl0 y12), (9, vi i13), (37, vb (decide (i13 < (r1.length : Int))))], stab [], 0⟩ ?_ ?_
   ·
    iterate 2 refine q1 _ ?_
    refine step (v := vi (r1.length : Int)) (st_len (xs := r1) (e := (eL none (D.int .u64))) rfl) ?_
    refine q1 _ ?_
    exact nR []
   refine NWp.condF (t := decide (i13 < (r1.length : Int))) rfl hc17 ?_
   refine NWp.norm (s0 := ⟨tab [(3, vp0 a1), (8, vl0 y12)], stab [], 0⟩) (nr []) ?_
   refine NWp.exit ?_
   exact And.intro rfl rfl
  refine NWp.seq ?_
  refine NWp.opsJ ⟨tab [(3, vp0 a1), (8, vl0 z41), (13, vi 0)], stab [], 0⟩ ?_ ?_
  ·
   refine q1 _ ?_
   exact nR []
  obtain ⟨q51, hl, h⟩ := bindE h
  refine NWp.block ?_
  refine loop_forR (cntU (z41.length : Int)) (fun (i42 : Int) (qq : Unit) => ⟨tab [(3, vp0 a1), (8, vl0 z41), (13, vi i42)], stab [], 0⟩) 8 (fun (qq : Unit) => ⟨tab [], stab [], 0⟩) Low low_step (r := r) hl (by unfold Low; omega) ?_ ?_ ?_ ?_
  ·
   rintro i42 ⟨⟩ xr47 hinv45 hgo44 h
   show NWp _ _ _ _ _ ⟨tab [(3, vp0 a1), (8, vl0 z41), (13, vi i42)], stab [], 0⟩
   have hc46 : decide (i42 < (z41.length : Int)) = true := decide_eq_true hgo44
   refine NWp.seq ?_
   refine NWp.opsJ ⟨tab [(3, vp0 a1), (8, vl0 z41), (13, vi i42), (73, vi (z41.length : Int)), (74, vb (decide (i42 < (z41.length : Int))))], stab [], 0⟩ ?_ ?_
   ·
    iterate 2 refine q1 _ ?_
    refine step (v := vi (z41.length : Int)) (st_len (xs := z41) (e := (D.int .u64)) rfl) ?_
    refine q1 _ ?_
    exact nR []
   refine NWp.rng 73 rfl fun hB43 => ?_
   refine NWp.condT (t := decide (i42 < (z41.length : Int))) rfl hc46 ?_
   refine NWp.skip ?_
   refine NWp.seq ?_
   refine NWp.block ?_
   obtain ⟨x48, hx48, h⟩ := bindE h
   obtain ⟨r49, hr49, h⟩ := bindE h
   refine NWp.opsJ ⟨tab [(3, vp0 a1), (8, vl0 z41), (13, vi i42), (83, vb (!r49))], stab [], 0⟩ ?_ ?_
   ·
    iterate 3 refine q1 _ ?_
    refine step (v := .d (.cptr none (.int .u64 x48) 0)) (st_iaddr (xs := z41) (e := (D.int .u64)) hx48 rfl rfl) ?_
    refine q1 _ ?_
    refine stepC (r := .bool r49) (ArgsOk.dt (ArgsOk.dt ArgsOk.nil')) (c_ref12_Consistent hr49) ?_
    refine q1 _ ?_
    exact nR []
   by_cases hc50 : (!r49) = true
   ·
    replace h := iteT hc50 h
    refine NWp.condT (t := (!r49)) rfl hc50 ?_
    refine NWp.opsJ ⟨tab [(4, vi 23)], stab [], 0⟩ ?_ ?_
    ·
     refine q1 _ ?_
     exact nR []
    obtain ⟨r51, kr51, hr⟩ := mapE (o := some 23) (g := Br.ret) h
    subst hr
    have h := kr51
    have hh := Option.some.inj h
    subst hh
    refine NWp.ret ?_
    refine And.intro (fun hn => nomatch hn) ?_
    intro hq
    have hq := hq.symm
    subst hq
    show FQ _ _ _ _
    exact FQ.mk1 (.inr rfl) (res_t (v := vi 23) rfl rfl) (RV.d trivial)
   ·
    replace h := iteF hc50 h
    refine NWp.condF (t := (!r49)) rfl hc50 ?_
    refine NWp.skip ?_
    have hh := Option.some.inj h
    subst hh
    refine NWp.opsE ⟨tab [(3, vp0 a1), (8, vl0 z41), (13, vi (i42 + 1))], stab [], 0⟩ ?_ ?_
    ·
     refine q1 _ ?_
     refine step (v := vi (i42 + 1)) (st_inc (inc_ok hinv45 hgo44 hB43) rfl rfl) ?_
     refine q1 _ ?_
     exact nR []
    exact And.intro rfl rfl
  ·
   rintro i42 ⟨⟩ hinv45 hgo44
   show NWp _ _ _ _ _ ⟨tab [(3, vp0 a1), (8, vl0 z41), (13, vi i42)], stab [], 0⟩
   have hc46 : ¬ (decide (i42 < (z41.length : Int)) = true) := fun hq => hgo44 (of_decide_eq_true hq)
   refine NWp.seq ?_
   refine NWp.opsJ ⟨tab [(3, vp0 a1), (8, vl0 z41), (13, vi i42), (74, vb (decide (i42 < (z41.length : Int))))], stab [], 0⟩ ?_ ?_
   ·
    iterate 2 refine q1 _ ?_
    refine step (v := vi (z41.length : Int)) (st_len (xs := z41) (e := (D.int .u64)) rfl) ?_
    refine q1 _ ?_
    exact nR []
   refine NWp.condF (t := decide (i42 < (z41.length : Int))) rfl hc46 ?_
   refine NWp.norm (s0 := ⟨tab [], stab [], 0⟩) (nr []) ?_
   refine NWp.exit ?_
   exact And.intro rfl rfl
  ·
   intro r' hq
   subst hq
   exact Option.some.inj h
  rintro ⟨⟩ rfl
  refine NWp.opsJ ⟨tab [(4, vi 0)], stab [], 0⟩ ?_ ?_
  ·
   refine q1 _ ?_
   exact nR []
  have hh := Option.some.inj h
  subst hh
  refine NWp.ret ?_
  show FQ _ _ _ _
  exact FQ.mk1 (.inr rfl) (res_t (v := vi 0) rfl rfl) (RV.d trivial)

theorem c_ref12_Of {a0 : api_Program} {r : (api_Nes × Int)} (h : ref12_Of a0 = some r) : PCall Tryd.prog 7 [eapi_Program a0] (.tup [eapi_Nes r.1, .int .i64 r.2]) := by
 refine PCall.introN ok7 (show 1 ≤ 40 by decide) ?_
 refine NWp.norm (s0 := ⟨tab [(0, vs2 a0)], stab [], 0⟩) (nr []) ?_
 refine NWp.opsJ ⟨tab [(1, vp2 a0), (2, .ptr 0 0 0)], stab [(0, .var [vl1 [], vl0 [], .d (eL none (eL none (D.int .u16)) [])])], 1⟩ ?_ ?_
 ·
  refine q1 _ ?_
  refine step (v := .ptr 0 0 0) (σ' := (upd (stab []) 0 (some (.var [vl1 [], vl0 [], .d (eL none (eL none (D.int .u16)) [])])))) (n' := 1) rfl ?_
  refine q1 _ ?_
  exact nR [0]
 obtain ⟨r1, hr1, h⟩ := bindE h
 refine NWp.opsJ ⟨tab [(1, vp2 a0), (2, .ptr 0 0 0), (4, .ptr 1 0 0), (5, vi r1.2)], stab [(0, .var [vl1 [], vl0 [], .d (eL none (eL none (D.int .u16)) [])]), (1, .var [.d (eL none (eL none (D.int .u16)) r1.1.States), vl3 r1.1.Edges])], 2⟩ ?_ ?_
 ·
  refine q1 _ ?_
  refine stepC (r := .tup [eapi_Space r1.1, .int .i64 r1.2]) (ArgsOk.dt ArgsOk.nil') (c_ref11_Explore hr1) ?_
  iterate 3 refine q1 _ ?_
  refine step (v := .ptr 1 0 0) (σ' := (upd (stab [(0, .var [vl1 [], vl0 [], .d (eL none (eL none (D.int .u16)) [])])]) 1 (some (.var [.d (eL none (eL none (D.int .u16)) []), vl3 []])))) (n' := 2) rfl ?_
  refine step (v := V.undef) (σ' := (upd (upd (stab [(0, .var [vl1 [], vl0 [], .d (eL none (eL none (D.int .u16)) [])])]) 1 (some (.var [.d (eL none (eL none (D.int .u16)) []), vl3 []]))) 1 (some (.var [.d (eL none (eL none (D.int .u16)) r1.1.States), vl3 r1.1.Edges])))) (n' := 2) rfl ?_
  refine q1 _ ?_
  exact nR [0, 1]
 refine NWp.seq ?_
 refine NWp.opsJ ⟨tab [(1, vp2 a0), (2, .ptr 0 0 0), (4, .ptr 1 0 0), (5, vi r1.2), (14, vb (r1.2 != 0))], stab [(0, .var [vl1 [], vl0 [], .d (eL none (eL none (D.int .u16)) [])]), (1, .var [.d (eL none (eL none (D.int .u16)) r1.1.States), vl3 r1.1.Edges])], 2⟩ ?_ ?_
 ·
  iterate 2 refine q1 _ ?_
  exact nR [0, 1]
 by_cases hc2 : (r1.2 != 0) = true
 ·
  replace h := iteT hc2 h
  refine NWp.condT (t := (r1.2 != 0)) rfl hc2 ?_
  refine NWp.opsJ ⟨tab [(2, .ptr 0 0 0), (3, vi r1.2)], stab [(0, .var [vl1 [], vl0 [], .d (eL none (eL none (D.int .u16)) [])])], 1⟩ ?_ ?_
  ·
   refine step (v := vs1 (api_Nes.mk [] [] [])) (st_build (ds := [eL (some 2) eapi_Event [], eL none (D.int .u64) [], eL none (eL none (D.int .u16)) []]) rfl) ?_
   refine q1 _ ?_
   refine step (v := V.undef) (σ' := (upd (stab [(0, .var [vl1 [], vl0 [], .d (eL none (eL none (D.int .u16)) [])]), (1, .var [.d (eL none (eL none (D.int .u16)) r1.1.States), vl3 r1.1.Edges])]) 0 (some (.var [vl1 [], vl0 [], .d (eL none (eL none (D.int .u16)) [])])))) (n' := 2) rfl ?_
   refine q1 _ ?_
   exact nR [0]
  have hh := Option.some.inj h
  subst hh
  refine NWp.ret ?_
  show FQ _ _ _ _
  exact FQ.mkT (.inr rfl) (res_cell (ds := [eL (some 2) eapi_Event [], eL none (D.int .u64) [], eL none (eL none (D.int .u16)) []]) rfl rfl (show 3 ≤ 3 by decide) rfl (res_t (v := vi r1.2) rfl rfl)) (RV.d (RV.d trivial))
 ·
  replace h := iteF hc2 h
  refine NWp.condF (t := (r1.2 != 0)) rfl hc2 ?_
  refine NWp.skip ?_
  obtain ⟨r3, hr3, h⟩ := bindE h
  refine NWp.opsJ ⟨tab [(1, vp2 a0), (2, .ptr 0 0 0), (4, .ptr 1 0 0), (6, .ptr 2 0 0), (7, vi r3.2)], stab [(0, .var [vl1 [], vl0 [], .d (eL none (eL none (D.int .u16)) [])]), (1, .var [.d (eL none (eL none (D.int .u16)) r1.1.States), vl3 r1.1.Edges]), (2, .var [vl1 r3.1.Events, vl0 r3.1.Sets, .d (eL none (eL none (D.int .u16)) r3.1.States)])], 3⟩ ?_ ?_
  ·
   refine q1 _ ?_
   refine step (v := vs4 r1.1) (st_ldV (ds := [eL none (eL none (D.int .u16)) r1.1.States, eL (some 3) eapi_Edge r1.1.Edges]) rfl rfl (show 2 ≤ 2 by decide) rfl) ?_
   refine stepC (r := .tup [eapi_Nes r3.1, .int .i64 r3.2]) (ArgsOk.dt (ArgsOk.dt ArgsOk.nil')) (c_ref12_sets hr3) ?_
   iterate 3 refine q1 _ ?_
   refine step (v := .ptr 2 0 0) (σ' := (upd (stab [(0, .var [vl1 [], vl0 [], .d (eL none (eL none (D.int .u16)) [])]), (1, .var [.d (eL none (eL none (D.int .u16)) r1.1.States), vl3 r1.1.Edges])]) 2 (some (.var [vl1 [], vl0 [], .d (eL none (eL none (D.int .u16)) [])])))) (n' := 3) rfl ?_
   refine step (v := V.undef) (σ' := (upd (upd (stab [(0, .var [vl1 [], vl0 [], .d (eL none (eL none (D.int .u16)) [])]), (1, .var [.d (eL none (eL none (D.int .u16)) r1.1.States), vl3 r1.1.Edges])]) 2 (some (.var [vl1 [], vl0 [], .d (eL none (eL none (D.int .u16)) [])]))) 2 (some (.var [vl1 r3.1.Events, vl0 r3.1.Sets, .d (eL none (eL none (D.int .u16)) r3.1.States)])))) (n' := 3) rfl ?_
   refine q1 _ ?_
   exact nR [0, 1, 2]
  refine NWp.seq ?_
  refine NWp.opsJ ⟨tab [(1, vp2 a0), (2, .ptr 0 0 0), (4, .ptr 1 0 0), (6, .ptr 2 0 0), (7, vi r3.2), (24, vb (r3.2 != 0))], stab [(0, .var [vl1 [], vl0 [], .d (eL none (eL none (D.int .u16)) [])]), (1, .var [.d (eL none (eL none (D.int .u16)) r1.1.States), vl3 r1.1.Edges]), (2, .var [vl1 r3.1.Events, vl0 r3.1.Sets, .d (eL none (eL none (D.int .u16)) r3.1.States)])], 3⟩ ?_ ?_
  ·
   iterate 2 refine q1 _ ?_
   exact nR [0, 1, 2]
  by_cases hc4 : (r3.2 != 0) = true
  ·
   replace h := iteT hc4 h
   refine NWp.condT (t := (r3.2 != 0)) rfl hc4 ?_
   refine NWp.opsJ ⟨tab [(2, .ptr 0 0 0), (3, vi r3.2)], stab [(0, .var [vl1 [], vl0 [], .d (eL none (eL none (D.int .u16)) [])])], 1⟩ ?_ ?_
   ·
    refine step (v := vs1 (api_Nes.mk [] [] [])) (st_build (ds := [eL (some 2) eapi_Event [], eL none (D.int .u64) [], eL none (eL none (D.int .u16)) []]) rfl) ?_
    refine q1 _ ?_
    refine step (v := V.undef) (σ' := (upd (stab [(0, .var [vl1 [], vl0 [], .d (eL none (eL none (D.int .u16)) [])]), (1, .var [.d (eL none (eL none (D.int .u16)) r1.1.States), vl3 r1.1.Edges]), (2, .var [vl1 r3.1.Events, vl0 r3.1.Sets, .d (eL none (eL none (D.int .u16)) r3.1.States)])]) 0 (some (.var [vl1 [], vl0 [], .d (eL none (eL none (D.int .u16)) [])])))) (n' := 3) rfl ?_
    refine q1 _ ?_
    exact nR [0]
   have hh := Option.some.inj h
   subst hh
   refine NWp.ret ?_
   show FQ _ _ _ _
   exact FQ.mkT (.inr rfl) (res_cell (ds := [eL (some 2) eapi_Event [], eL none (D.int .u64) [], eL none (eL none (D.int .u16)) []]) rfl rfl (show 3 ≤ 3 by decide) rfl (res_t (v := vi r3.2) rfl rfl)) (RV.d (RV.d trivial))
  ·
   replace h := iteF hc4 h
   refine NWp.condF (t := (r3.2 != 0)) rfl hc4 ?_
   refine NWp.skip ?_
   refine NWp.seq ?_
   obtain ⟨r5, hr5, h⟩ := bindE h
   refine NWp.opsJ ⟨tab [(1, vp2 a0), (2, .ptr 0 0 0), (6, .ptr 1 0 0), (30, vb (!r5))], stab [(0, .var [vl1 [], vl0 [], .d (eL none (eL none (D.int .u16)) [])]), (1, .var [vl1 r3.1.Events, vl0 r3.1.Sets, .d (eL none (eL none (D.int .u16)) r3.1.States)])], 2⟩ ?_ ?_
   ·
    refine step (v := vs1 r3.1) (st_ldV (ds := [eL (some 2) eapi_Event r3.1.Events, eL none (D.int .u64) r3.1.Sets, eL none (eL none (D.int .u16)) r3.1.States]) rfl rfl (show 3 ≤ 3 by decide) rfl) ?_
    refine step (v := vs4 r1.1) (st_ldV (ds := [eL none (eL none (D.int .u16)) r1.1.States, eL (some 3) eapi_Edge r1.1.Edges]) rfl rfl (show 2 ≤ 2 by decide) rfl) ?_
    refine stepC (r := .bool r5) (ArgsOk.dt (ArgsOk.dt ArgsOk.nil')) (c_ref12_family hr5) ?_
    refine q1 _ ?_
    exact nR [0, 2]
   by_cases hc6 : (!r5) = true
   ·
    replace h := iteT hc6 h
    refine NWp.condT (t := (!r5)) rfl hc6 ?_
    refine NWp.opsJ ⟨tab [(2, .ptr 0 0 0), (3, vi 22)], stab [(0, .var [vl1 [], vl0 [], .d (eL none (eL none (D.int .u16)) [])])], 1⟩ ?_ ?_
    ·
     refine step (v := vs1 (api_Nes.mk [] [] [])) (st_build (ds := [eL (some 2) eapi_Event [], eL none (D.int .u64) [], eL none (eL none (D.int .u16)) []]) rfl) ?_
     refine step (v := V.undef) (σ' := (upd (stab [(0, .var [vl1 [], vl0 [], .d (eL none (eL none (D.int .u16)) [])]), (1, .var [vl1 r3.1.Events, vl0 r3.1.Sets, .d (eL none (eL none (D.int .u16)) r3.1.States)])]) 0 (some (.var [vl1 [], vl0 [], .d (eL none (eL none (D.int .u16)) [])])))) (n' := 2) rfl ?_
     refine q1 _ ?_
     exact nR [0]
    have hh := Option.some.inj h
    subst hh
    refine NWp.ret ?_
    show FQ _ _ _ _
    exact FQ.mkT (.inr rfl) (res_cell (ds := [eL (some 2) eapi_Event [], eL none (D.int .u64) [], eL none (eL none (D.int .u16)) []]) rfl rfl (show 3 ≤ 3 by decide) rfl (res_t (v := vi 22) rfl rfl)) (RV.d (RV.d trivial))
   ·
    replace h := iteF hc6 h
    refine NWp.condF (t := (!r5)) rfl hc6 ?_
    refine NWp.skip ?_
    obtain ⟨r7, hr7, h⟩ := bindE h
    refine NWp.opsJ ⟨tab [(2, .ptr 0 0 0), (6, .ptr 1 0 0), (7, vi r7)], stab [(0, .var [vl1 [], vl0 [], .d (eL none (eL none (D.int .u16)) [])]), (1, .var [vl1 r3.1.Events, vl0 r3.1.Sets, .d (eL none (eL none (D.int .u16)) r3.1.States)])], 2⟩ ?_ ?_
    ·
     refine q1 _ ?_
     refine step (v := vs1 r3.1) (st_ldV (ds := [eL (some 2) eapi_Event r3.1.Events, eL none (D.int .u64) r3.1.Sets, eL none (eL none (D.int .u16)) r3.1.States]) rfl rfl (show 3 ≤ 3 by decide) rfl) ?_
     refine stepC (r := .int .i64 r7) (ArgsOk.dt (ArgsOk.dt ArgsOk.nil')) (c_ref12_local hr7) ?_
     refine q1 _ ?_
     exact nR [0, 1]
    refine NWp.seq ?_
    refine NWp.opsJ ⟨tab [(2, .ptr 0 0 0), (6, .ptr 1 0 0), (7, vi r7), (36, vb (r7 != 0))], stab [(0, .var [vl1 [], vl0 [], .d (eL none (eL none (D.int .u16)) [])]), (1, .var [vl1 r3.1.Events, vl0 r3.1.Sets, .d (eL none (eL none (D.int .u16)) r3.1.States)])], 2⟩ ?_ ?_
    ·
     iterate 2 refine q1 _ ?_
     exact nR [0, 1]
    by_cases hc8 : (r7 != 0) = true
    ·
     replace h := iteT hc8 h
     refine NWp.condT (t := (r7 != 0)) rfl hc8 ?_
     refine NWp.opsJ ⟨tab [(2, .ptr 0 0 0), (3, vi r7)], stab [(0, .var [vl1 [], vl0 [], .d (eL none (eL none (D.int .u16)) [])])], 1⟩ ?_ ?_
     ·
      refine step (v := vs1 (api_Nes.mk [] [] [])) (st_build (ds := [eL (some 2) eapi_Event [], eL none (D.int .u64) [], eL none (eL none (D.int .u16)) []]) rfl) ?_
      refine q1 _ ?_
      refine step (v := V.undef) (σ' := (upd (stab [(0, .var [vl1 [], vl0 [], .d (eL none (eL none (D.int .u16)) [])]), (1, .var [vl1 r3.1.Events, vl0 r3.1.Sets, .d (eL none (eL none (D.int .u16)) r3.1.States)])]) 0 (some (.var [vl1 [], vl0 [], .d (eL none (eL none (D.int .u16)) [])])))) (n' := 2) rfl ?_
      refine q1 _ ?_
      exact nR [0]
     have hh := Option.some.inj h
     subst hh
     refine NWp.ret ?_
     show FQ _ _ _ _
     exact FQ.mkT (.inr rfl) (res_cell (ds := [eL (some 2) eapi_Event [], eL none (D.int .u64) [], eL none (eL none (D.int .u16)) []]) rfl rfl (show 3 ≤ 3 by decide) rfl (res_t (v := vi r7) rfl rfl)) (RV.d (RV.d trivial))
    ·
     replace h := iteF hc8 h
     refine NWp.condF (t := (r7 != 0)) rfl hc8 ?_
     refine NWp.skip ?_
     refine NWp.opsJ ⟨tab [(2, .ptr 0 0 0), (3, vi 0)], stab [(0, .var [vl1 r3.1.Events, vl0 r3.1.Sets, .d (eL none (eL none (D.int .u16)) r3.1.States)])], 1⟩ ?_ ?_
     ·
      refine step (v := vs1 r3.1) (st_ldV (ds := [eL (some 2) eapi_Event r3.1.Events, eL none (D.int .u64) r3.1.Sets, eL none (eL none (D.int .u16)) r3.1.States]) rfl rfl (show 3 ≤ 3 by decide) rfl) ?_
      refine step (v := V.undef) (σ' := (upd (stab [(0, .var [vl1 [], vl0 [], .d (eL none (eL none (D.int .u16)) [])]), (1, .var [vl1 r3.1.Events, vl0 r3.1.Sets, .d (eL none (eL none (D.int .u16)) r3.1.States)])]) 0 (some (.var [vl1 r3.1.Events, vl0 r3.1.Sets, .d (eL none (eL none (D.int .u16)) r3.1.States)])))) (n' := 2) rfl ?_
      refine q1 _ ?_
      exact nR [0]
     have hh := Option.some.inj h
     subst hh
     refine NWp.ret ?_
     show FQ _ _ _ _
     exact FQ.mkT (.inr rfl) (res_cell (ds := [eL (some 2) eapi_Event r3.1.Events, eL none (D.int .u64) r3.1.Sets, eL none (eL none (D.int .u16)) r3.1.States]) rfl rfl (show 3 ≤ 3 by decide) rfl (res_t (v := vi 0) rfl rfl)) (RV.d (RV.d trivial))

theorem c_ref18_New {a0 : api_Nes} {a1 : Int} {r : ref18_Ctrl} (h : ref18_New a0 a1 = some r) : PCall Tryd.prog 9 [eapi_Nes a0, .int .i64 a1] (eref18_Ctrl r) := by
 refine PCall.introN ok9 (show 2 ≤ 15 by decide) ?_
 refine NWp.norm (s0 := ⟨tab [(0, vs1 a0), (1, vi a1)], stab [], 0⟩) (nr []) ?_
 refine NWp.opsJ ⟨tab [(1, vi a1), (2, vp0 a0), (4, .ptr 0 0 0)], stab [(0, .var [vl1 [], vl0 [], .d (eL none (eL none (D.int .u16)) []), .d (.int .u64 0), vl0 [], vl0 [], vl2 []])], 1⟩ ?_ ?_
 ·
  refine q1 _ ?_
  refine step (v := .ptr 0 0 0) (σ' := (upd (stab []) 0 (some (.var [vl1 [], vl0 [], .d (eL none (eL none (D.int .u16)) []), .d (.int .u64 0), vl0 [], vl0 [], vl2 []])))) (n' := 1) rfl ?_
  exact nR [0]
 refine NWp.opsJ ⟨tab [(2, vp0 a0), (4, .ptr 0 0 0), (5, vi (imin (imax a1 0) 12))], stab [(0, .var [vl1 [], vl0 [], .d (eL none (eL none (D.int .u16)) []), .d (.int .u64 0), vl0 [], vl0 [], vl2 []])], 1⟩ ?_ ?_
 ·
  iterate 4 refine q1 _ ?_
  exact nR [0]
 obtain ⟨l1, hl1, h⟩ := bindE h
 refine NWp.opsJ ⟨tab [(4, .ptr 0 0 0)], stab [(0, .var [vl1 a0.Events, vl0 a0.Sets, .d (eL none (eL none (D.int .u16)) a0.States), .d (.int .u64 0), .loc 1 0 l1.length, .loc 2 0 l1.length, vl2 []]), (1, .lst false none (List.map (D.int .u64) l1)), (2, .lst false none (List.map (D.int .u64) l1))], 3⟩ ?_ ?_
 ·
  iterate 2 refine q1 _ ?_
  refine step (v := .loc 1 0 l1.length) (σ' := (upd (stab [(0, .var [vl1 [], vl0 [], .d (eL none (eL none (D.int .u16)) []), .d (.int .u64 0), vl0 [], vl0 [], vl2 []])]) 1 (some (.lst false none (List.map (D.int .u64) l1))))) (n' := 2) (st_mkF (e := (D.int .u64)) (z := 0) hl1 rfl rfl (gmk_le hl1)) ?_
  refine q1 _ ?_
  refine step (v := .loc 2 0 l1.length) (σ' := (upd (upd (stab [(0, .var [vl1 [], vl0 [], .d (eL none (eL none (D.int .u16)) []), .d (.int .u64 0), vl0 [], vl0 [], vl2 []])]) 1 (some (.lst false none (List.map (D.int .u64) l1)))) 2 (some (.lst false none (List.map (D.int .u64) l1))))) (n' := 3) (st_mkF (e := (D.int .u64)) (z := 0) hl1 rfl rfl (gmk_le hl1)) ?_
  refine q1 _ ?_
  refine step (v := V.undef) (σ' := (upd (upd (upd (stab [(0, .var [vl1 [], vl0 [], .d (eL none (eL none (D.int .u16)) []), .d (.int .u64 0), vl0 [], vl0 [], vl2 []])]) 1 (some (.lst false none (List.map (D.int .u64) l1)))) 2 (some (.lst false none (List.map (D.int .u64) l1)))) 0 (some (.var [vl1 a0.Events, vl0 a0.Sets, .d (eL none (eL none (D.int .u16)) a0.States), .d (.int .u64 0), .loc 1 0 l1.length, .loc 2 0 l1.length, vl2 []])))) (n' := 3) rfl ?_
  exact nR [0, 1, 2]
 have hh := Option.some.inj h
 subst hh
 refine NWp.ret ?_
 show FQ _ _ _ _
 exact FQ.mk1 (.inr rfl) rfl (RV.agg (RV0.d (RV0.d (RV0.d (RV0.d (RV0.loc (xs := l1) (e := (D.int .u64)) rfl rfl (RV0.loc (xs := l1) (e := (D.int .u64)) rfl rfl (RV0.d trivial))))))) trivial)

theorem c_ref18_Ctrl_Tell {a0 : ref18_Ctrl} {a1 : Int} {r : (ref18_Ctrl × Int × Int)} (h : ref18_Ctrl_Tell a0 a1 = some r) : PCall Tryd.prog 10 [eref18_Ctrl a0, .int .i64 a1] (.tup [eref18_Ctrl r.1, .int .u64 r.2.1, .int .i64 r.2.2]) := by
 refine PCall.introN ok10 (show 2 ≤ 32 by decide) ?_
 refine NWp.norm (s0 := ⟨tab [(0, vs3 a0), (1, vi a1)], stab [], 0⟩) (nr []) ?_
 refine NWp.opsJ ⟨tab [(1, vi a1), (2, .ptr 0 0 0), (4, .ptr 1 0 0)], stab [(0, .var [vl1 a0.N.Events, vl0 a0.N.Sets, .d (eL none (eL none (D.int .u16)) a0.N.States), .d (.int .u64 a0.Known), vl0 a0.Heard, vl0 a0.Told, vl2 a0.Order]), (1, .var [vl1 [], vl0 [], .d (eL none (eL none (D.int .u16)) []), .d (.int .u64 0), vl0 [], vl0 [], vl2 []])], 2⟩ ?_ ?_
 ·
  refine step (v := .ptr 0 0 0) (σ' := (upd (stab []) 0 (some (.var [vl1 a0.N.Events, vl0 a0.N.Sets, .d (eL none (eL none (D.int .u16)) a0.N.States), .d (.int .u64 a0.Known), vl0 a0.Heard, vl0 a0.Told, vl2 a0.Order])))) (n' := 1) rfl ?_
  refine step (v := .ptr 1 0 0) (σ' := (upd (upd (stab []) 0 (some (.var [vl1 a0.N.Events, vl0 a0.N.Sets, .d (eL none (eL none (D.int .u16)) a0.N.States), .d (.int .u64 a0.Known), vl0 a0.Heard, vl0 a0.Told, vl2 a0.Order]))) 1 (some (.var [vl1 [], vl0 [], .d (eL none (eL none (D.int .u16)) []), .d (.int .u64 0), vl0 [], vl0 [], vl2 []])))) (n' := 2) rfl ?_
  iterate 2 refine q1 _ ?_
  exact nR [0, 1]
 refine NWp.seq ?_
 refine NWp.opsJ ⟨tab [(1, vi a1), (2, .ptr 0 0 0), (4, .ptr 1 0 0), (16, vb ((decide (a1 < 0)) || (decide (a1 ≥ (a0.Told.length : Int)))))], stab [(0, .var [vl1 a0.N.Events, vl0 a0.N.Sets, .d (eL none (eL none (D.int .u16)) a0.N.States), .d (.int .u64 a0.Known), vl0 a0.Heard, vl0 a0.Told, vl2 a0.Order]), (1, .var [vl1 [], vl0 [], .d (eL none (eL none (D.int .u16)) []), .d (.int .u64 0), vl0 [], vl0 [], vl2 []])], 2⟩ ?_ ?_
 ·
  iterate 3 refine q1 _ ?_
  by_cases hg1 : decide (a1 < 0) = true
  ·
   iterate 5 refine qX (decide (a1 < 0)) (by rw [hg1]; decide) ?_
   refine step (v := vb true) (st_pickT (b := decide (a1 < 0)) rfl hg1 rfl) ?_
   exact RunOps.nil' (nm [0, 1] ⟨.d _, .pt 0, .pt 1, .eq (by first | (simp [hg1]; done) | (simp_all; done) | grind), trivial⟩ ⟨⟨show 0 < 2 by decide, _, rfl, .vars ⟨.d _, .d _, .d _, .d _, .d _, .d _, .d _, trivial⟩⟩, ⟨show 1 < 2 by decide, _, rfl, .vars ⟨.d _, .d _, .d _, .d _, .d _, .d _, .d _, trivial⟩⟩, trivial⟩)
  ·
   refine qG (decide (a1 < 0)) (Bool.eq_false_iff.2 hg1) ?_
   refine q1 _ ?_
   refine qG (decide (a1 < 0)) (Bool.eq_false_iff.2 hg1) ?_
   refine q1 _ ?_
   refine qG (decide (a1 < 0)) (Bool.eq_false_iff.2 hg1) ?_
   refine q1 _ ?_
   refine qG (decide (a1 < 0)) (Bool.eq_false_iff.2 hg1) ?_
   refine step (v := vi (a0.Told.length : Int)) (st_len (xs := a0.Told) (e := (D.int .u64)) rfl) ?_
   refine qG (decide (a1 < 0)) (Bool.eq_false_iff.2 hg1) ?_
   refine q1 _ ?_
   refine step (v := vb (decide (a1 ≥ (a0.Told.length : Int)))) (st_pickF (b := decide (a1 < 0)) rfl hg1 rfl) ?_
   exact RunOps.nil' (nm [0, 1] ⟨.d _, .pt 0, .pt 1, .eq (by first | (simp [hg1]; done) | (simp_all; done) | grind), trivial⟩ ⟨⟨show 0 < 2 by decide, _, rfl, .vars ⟨.d _, .d _, .d _, .d _, .d _, .d _, .d _, trivial⟩⟩, ⟨show 1 < 2 by decide, _, rfl, .vars ⟨.d _, .d _, .d _, .d _, .d _, .d _, .d _, trivial⟩⟩, trivial⟩)
 by_cases hc2 : ((decide (a1 < 0)) || (decide (a1 ≥ (a0.Told.length : Int)))) = true
 ·
  replace h := iteT hc2 h
  refine NWp.condT (t := ((decide (a1 < 0)) || (decide (a1 ≥ (a0.Told.length : Int))))) rfl hc2 ?_
  refine NWp.opsJ ⟨tab [(4, .ptr 0 0 0), (5, .d (.int .u64 0)), (6, vi 1)], stab [(0, .var [vl1 a0.N.Events, vl0 a0.N.Sets, .d (eL none (eL none (D.int .u16)) a0.N.States), .d (.int .u64 a0.Known), vl0 a0.Heard, vl0 a0.Told, vl2 a0.Order])], 1⟩ ?_ ?_
  ·
   refine step (v := vs3 a0) (st_ldV (ds := [eL (some 2) eapi_Event a0.N.Events, eL none (D.int .u64) a0.N.Sets, eL none (eL none (D.int .u16)) a0.N.States, .int .u64 a0.Known, eL none (D.int .u64) a0.Heard, eL none (D.int .u64) a0.Told, eL none (D.int .i64) a0.Order]) rfl rfl (show 7 ≤ 7 by decide) rfl) ?_
   refine step (v := V.undef) (σ' := (upd (stab [(0, .var [vl1 a0.N.Events, vl0 a0.N.Sets, .d (eL none (eL none (D.int .u16)) a0.N.States), .d (.int .u64 a0.Known), vl0 a0.Heard, vl0 a0.Told, vl2 a0.Order]), (1, .var [vl1 [], vl0 [], .d (eL none (eL none (D.int .u16)) []), .d (.int .u64 0), vl0 [], vl0 [], vl2 []])]) 1 (some (.var [vl1 a0.N.Events, vl0 a0.N.Sets, .d (eL none (eL none (D.int .u16)) a0.N.States), .d (.int .u64 a0.Known), vl0 a0.Heard, vl0 a0.Told, vl2 a0.Order])))) (n' := 2) rfl ?_
   iterate 2 refine q1 _ ?_
   exact nR [1]
  have hh := Option.some.inj h
  subst hh
  refine NWp.ret ?_
  show FQ _ _ _ _
  exact FQ.mkT (.inr rfl) (res_cell (ds := [eL (some 2) eapi_Event a0.N.Events, eL none (D.int .u64) a0.N.Sets, eL none (eL none (D.int .u16)) a0.N.States, .int .u64 a0.Known, eL none (D.int .u64) a0.Heard, eL none (D.int .u64) a0.Told, eL none (D.int .i64) a0.Order]) rfl rfl (show 7 ≤ 7 by decide) rfl (res_t (v := .d (.int .u64 0)) rfl (res_t (v := vi 1) rfl rfl))) (RV.d (RV.d (RV.d trivial)))
 ·
  replace h := iteF hc2 h
  refine NWp.condF (t := ((decide (a1 < 0)) || (decide (a1 ≥ (a0.Told.length : Int))))) rfl hc2 ?_
  refine NWp.skip ?_
  obtain ⟨l3, hl3, h⟩ := bindE h
  refine NWp.opsJ ⟨tab [(1, vi a1), (2, .ptr 0 0 0), (4, .ptr 1 0 0), (7, .loc 2 0 l3.length)], stab [(0, .var [vl1 a0.N.Events, vl0 a0.N.Sets, .d (eL none (eL none (D.int .u16)) a0.N.States), .d (.int .u64 a0.Known), vl0 a0.Heard, vl0 a0.Told, vl2 a0.Order]), (1, .var [vl1 [], vl0 [], .d (eL none (eL none (D.int .u16)) []), .d (.int .u64 0), vl0 [], vl0 [], vl2 []]), (2, .lst true none (List.map (D.int .u64) l3))], 3⟩ ?_ ?_
  ·
   refine step (v := .loc 2 0 (([] : List Int).length)) (σ' := (upd (stab [(0, .var [vl1 a0.N.Events, vl0 a0.N.Sets, .d (eL none (eL none (D.int .u16)) a0.N.States), .d (.int .u64 a0.Known), vl0 a0.Heard, vl0 a0.Told, vl2 a0.Order]), (1, .var [vl1 [], vl0 [], .d (eL none (eL none (D.int .u16)) []), .d (.int .u64 0), vl0 [], vl0 [], vl2 []])]) 2 (some (.lst true none (List.map (D.int .u64) ([] : List Int)))))) (n' := 3) rfl ?_
   iterate 2 refine q1 _ ?_
   refine step (v := .loc 3 0 l3.length) (σ' := (upd (upd (upd (stab [(0, .var [vl1 a0.N.Events, vl0 a0.N.Sets, .d (eL none (eL none (D.int .u16)) a0.N.States), .d (.int .u64 a0.Known), vl0 a0.Heard, vl0 a0.Told, vl2 a0.Order]), (1, .var [vl1 [], vl0 [], .d (eL none (eL none (D.int .u16)) []), .d (.int .u64 0), vl0 [], vl0 [], vl2 []])]) 2 (some (.lst true none (List.map (D.int .u64) ([] : List Int))))) 2 none) 3 (some (.lst true none (List.map (D.int .u64) l3))))) (n' := 4) (st_app (xs := ([] : List Int)) (ys := a0.Told) (e := (D.int .u64)) hl3 rfl rfl rfl (src_v (xs := a0.Told) (e := (D.int .u64)) rfl)) ?_
   refine q1 _ ?_
   exact nR [0, 1, 3]
  obtain ⟨x4, hx4, h⟩ := bindE h
  obtain ⟨l5, hl5, h⟩ := bindE h
  refine NWp.opsJ ⟨tab [(2, .ptr 0 0 0), (4, .ptr 1 0 0), (7, .loc 2 0 l5.length)], stab [(0, .var [vl1 a0.N.Events, vl0 a0.N.Sets, .d (eL none (eL none (D.int .u16)) a0.N.States), .d (.int .u64 a0.Known), vl0 a0.Heard, vl0 a0.Told, vl2 a0.Order]), (1, .var [vl1 [], vl0 [], .d (eL none (eL none (D.int .u16)) []), .d (.int .u64 0), vl0 [], vl0 [], vl2 []]), (2, .lst true none (List.map (D.int .u64) l5))], 3⟩ ?_ ?_
  ·
   iterate 4 refine q1 _ ?_
   refine step (v := .ptr 2 a1.toNat 0) (st_iaddrL (xs := l3) (e := (D.int .u64)) hx4 rfl rfl rfl rfl) ?_
   refine step (v := V.undef) (σ' := (upd (stab [(0, .var [vl1 a0.N.Events, vl0 a0.N.Sets, .d (eL none (eL none (D.int .u16)) a0.N.States), .d (.int .u64 a0.Known), vl0 a0.Heard, vl0 a0.Told, vl2 a0.Order]), (1, .var [vl1 [], vl0 [], .d (eL none (eL none (D.int .u16)) []), .d (.int .u64 0), vl0 [], vl0 [], vl2 []]), (2, .lst true none (List.map (D.int .u64) l3))]) 2 (some (.lst true none (List.map (D.int .u64) l5))))) (n' := 3) (st_storeL' (e := (D.int .u64)) (v' := a0.Known) hl5 rfl rfl rfl rfl rfl) ?_
   exact RunOps.nil' (nm [0, 1, 2] ⟨.pt 0, .pt 1, .le (id := 2) (gput_len hl5).symm (show 2 < 3 by decide), trivial⟩ ⟨⟨show 0 < 3 by decide, _, rfl, .vars ⟨.d _, .d _, .d _, .d _, .d _, .d _, .d _, trivial⟩⟩, ⟨show 1 < 3 by decide, _, rfl, .vars ⟨.d _, .d _, .d _, .d _, .d _, .d _, .d _, trivial⟩⟩, ⟨show 2 < 3 by decide, _, rfl, .lst _ _ _⟩, trivial⟩)
  refine NWp.opsJ ⟨tab [(2, .ptr 0 0 0), (4, .ptr 2 0 0)], stab [(0, .var [vl1 a0.N.Events, vl0 a0.N.Sets, .d (eL none (eL none (D.int .u16)) a0.N.States), .d (.int .u64 a0.Known), vl0 a0.Heard, .loc 1 0 l5.length, vl2 a0.Order]), (1, .lst true none (List.map (D.int .u64) l5)), (2, .var [vl1 [], vl0 [], .d (eL none (eL none (D.int .u16)) []), .d (.int .u64 0), vl0 [], vl0 [], vl2 []])], 3⟩ ?_ ?_
  ·
   iterate 2 refine q1 _ ?_
   refine step (v := V.undef) (σ' := (upd (stab [(0, .var [vl1 a0.N.Events, vl0 a0.N.Sets, .d (eL none (eL none (D.int .u16)) a0.N.States), .d (.int .u64 a0.Known), vl0 a0.Heard, vl0 a0.Told, vl2 a0.Order]), (1, .var [vl1 [], vl0 [], .d (eL none (eL none (D.int .u16)) []), .d (.int .u64 0), vl0 [], vl0 [], vl2 []]), (2, .lst true none (List.map (D.int .u64) l5))]) 0 (some (.var [vl1 a0.N.Events, vl0 a0.N.Sets, .d (eL none (eL none (D.int .u16)) a0.N.States), .d (.int .u64 a0.Known), vl0 a0.Heard, .loc 2 0 l5.length, vl2 a0.Order])))) (n' := 3) rfl ?_
   exact nR [0, 2, 1]
  refine NWp.opsSJ ⟨tab [(4, .ptr 0 0 0), (5, .d (.int .u64 a0.Known)), (6, vi 0)], stab [(0, .var [vl1 a0.N.Events, vl0 a0.N.Sets, .d (eL none (eL none (D.int .u16)) a0.N.States), .d (.int .u64 a0.Known), vl0 a0.Heard, .loc 1 0 l5.length, vl2 a0.Order]), (1, .lst true none (List.map (D.int .u64) l5))], 2⟩ ?_ ?_
  ·
   refine stepL [0] [] (v := .agg [vl1 a0.N.Events, vl0 a0.N.Sets, .d (eL none (eL none (D.int .u16)) a0.N.States), .d (.int .u64 a0.Known), vl0 a0.Heard, .loc 1 0 l5.length, vl2 a0.Order]) rfl rfl rfl ?_
   refine stepL [] [] (v := .ptr 0 0 3) rfl rfl rfl ?_
   refine stepL [0] [] (v := .d (.int .u64 a0.Known)) rfl rfl rfl ?_
   refine stepL [2] [2] (v := V.undef) (σ' := (upd (stab [(0, .var [vl1 a0.N.Events, vl0 a0.N.Sets, .d (eL none (eL none (D.int .u16)) a0.N.States), .d (.int .u64 a0.Known), vl0 a0.Heard, .loc 1 0 l5.length, vl2 a0.Order]), (1, .lst true none (List.map (D.int .u64) l5)), (2, .var [vl1 [], vl0 [], .d (eL none (eL none (D.int .u16)) []), .d (.int .u64 0), vl0 [], vl0 [], vl2 []])]) 2 (some (.var [vl1 a0.N.Events, vl0 a0.N.Sets, .d (eL none (eL none (D.int .u16)) a0.N.States), .d (.int .u64 a0.Known), vl0 a0.Heard, .loc 1 0 l5.length, vl2 a0.Order])))) (n' := 3) rfl rfl rfl ?_
   refine stepL [] [] (v := .d (.int .u64 a0.Known)) rfl rfl rfl ?_
   refine stepL [] [] (v := vi 0) rfl rfl rfl ?_
   exact RunOpsL.nil' ⟨by decide, nr [2, 1]⟩
  have hh := Option.some.inj h
  subst hh
  refine NWp.ret ?_
  show FQ _ _ _ _
  exact FQ.mkT (.inr rfl) rfl (RV.agg (RV0.d (RV0.d (RV0.d (RV0.d (RV0.d (RV0.loc (xs := l5) (e := (D.int .u64)) rfl rfl (RV0.d trivial))))))) (RV.d (RV.d trivial)))

theorem c_ref18_Ctrl_Hear {a0 : ref18_Ctrl} {a1 : Int} {a2 : Int} {r : (ref18_Ctrl × Int)} (h : ref18_Ctrl_Hear a0 a1 a2 = some r) : PCall Tryd.prog 12 [eref18_Ctrl a0, .int .i64 a1, .int .u64 a2] (.tup [eref18_Ctrl r.1, .int .i64 r.2]) := by
 refine PCall.introN ok12 (show 3 ≤ 77 by decide) ?_
 refine NWp.norm (s0 := ⟨tab [(0, vs3 a0), (1, vi a1), (2, .d (.int .u64 a2))], stab [], 0⟩) (nr []) ?_
 refine NWp.opsJ ⟨tab [(1, vi a1), (2, .d (.int .u64 a2)), (3, .ptr 0 0 0), (6, .ptr 1 0 0)], stab [(0, .var [vl1 a0.N.Events, vl0 a0.N.Sets, .d (eL none (eL none (D.int .u16)) a0.N.States), .d (.int .u64 a0.Known), vl0 a0.Heard, vl0 a0.Told, vl2 a0.Order]), (1, .var [vl1 [], vl0 [], .d (eL none (eL none (D.int .u16)) []), .d (.int .u64 0), vl0 [], vl0 [], vl2 []])], 2⟩ ?_ ?_
 ·
  refine step (v := .ptr 0 0 0) (σ' := (upd (stab []) 0 (some (.var [vl1 a0.N.Events, vl0 a0.N.Sets, .d (eL none (eL none (D.int .u16)) a0.N.States), .d (.int .u64 a0.Known), vl0 a0.Heard, vl0 a0.Told, vl2 a0.Order])))) (n' := 1) rfl ?_
  refine step (v := .ptr 1 0 0) (σ' := (upd (upd (stab []) 0 (some (.var [vl1 a0.N.Events, vl0 a0.N.Sets, .d (eL none (eL none (D.int .u16)) a0.N.States), .d (.int .u64 a0.Known), vl0 a0.Heard, vl0 a0.Told, vl2 a0.Order]))) 1 (some (.var [vl1 [], vl0 [], .d (eL none (eL none (D.int .u16)) []), .d (.int .u64 0), vl0 [], vl0 [], vl2 []])))) (n' := 2) rfl ?_
  refine q1 _ ?_
  exact nR [0, 1]
 refine NWp.seq ?_
 refine NWp.opsJ ⟨tab [(1, vi a1), (2, .d (.int .u64 a2)), (3, .ptr 0 0 0), (6, .ptr 1 0 0), (19, vb ((decide (a1 < 0)) || (decide (a1 ≥ (a0.Heard.length : Int)))))], stab [(0, .var [vl1 a0.N.Events, vl0 a0.N.Sets, .d (eL none (eL none (D.int .u16)) a0.N.States), .d (.int .u64 a0.Known), vl0 a0.Heard, vl0 a0.Told, vl2 a0.Order]), (1, .var [vl1 [], vl0 [], .d (eL none (eL none (D.int .u16)) []), .d (.int .u64 0), vl0 [], vl0 [], vl2 []])], 2⟩ ?_ ?_
 ·
  iterate 3 refine q1 _ ?_
  by_cases hg1 : decide (a1 < 0) = true
  ·
   iterate 5 refine qX (decide (a1 < 0)) (by rw [hg1]; decide) ?_
   refine step (v := vb true) (st_pickT (b := decide (a1 < 0)) rfl hg1 rfl) ?_
   exact RunOps.nil' (nm [0, 1] ⟨.d _, .d _, .pt 0, .pt 1, .eq (by first | (simp [hg1]; done) | (simp_all; done) | grind), trivial⟩ ⟨⟨show 0 < 2 by decide, _, rfl, .vars ⟨.d _, .d _, .d _, .d _, .d _, .d _, .d _, trivial⟩⟩, ⟨show 1 < 2 by decide, _, rfl, .vars ⟨.d _, .d _, .d _, .d _, .d _, .d _, .d _, trivial⟩⟩, trivial⟩)
  ·
   refine qG (decide (a1 < 0)) (Bool.eq_false_iff.2 hg1) ?_
   refine q1 _ ?_
   refine qG (decide (a1 < 0)) (Bool.eq_false_iff.2 hg1) ?_
   refine q1 _ ?_
   refine qG (decide (a1 < 0)) (Bool.eq_false_iff.2 hg1) ?_
   refine q1 _ ?_
   refine qG (decide (a1 < 0)) (Bool.eq_false_iff.2 hg1) ?_
   refine step (v := vi (a0.Heard.length : Int)) (st_len (xs := a0.Heard) (e := (D.int .u64)) rfl) ?_
   refine qG (decide (a1 < 0)) (Bool.eq_false_iff.2 hg1) ?_
   refine q1 _ ?_
   refine step (v := vb (decide (a1 ≥ (a0.Heard.length : Int)))) (st_pickF (b := decide (a1 < 0)) rfl hg1 rfl) ?_
   exact RunOps.nil' (nm [0, 1] ⟨.d _, .d _, .pt 0, .pt 1, .eq (by first | (simp [hg1]; done) | (simp_all; done) | grind), trivial⟩ ⟨⟨show 0 < 2 by decide, _, rfl, .vars ⟨.d _, .d _, .d _, .d _, .d _, .d _, .d _, trivial⟩⟩, ⟨show 1 < 2 by decide, _, rfl, .vars ⟨.d _, .d _, .d _, .d _, .d _, .d _, .d _, trivial⟩⟩, trivial⟩)
 by_cases hc2 : ((decide (a1 < 0)) || (decide (a1 ≥ (a0.Heard.length : Int)))) = true
 ·
  replace h := iteT hc2 h
  refine NWp.condT (t := ((decide (a1 < 0)) || (decide (a1 ≥ (a0.Heard.length : Int))))) rfl hc2 ?_
  refine NWp.opsJ ⟨tab [(6, .ptr 0 0 0), (7, vi 1)], stab [(0, .var [vl1 a0.N.Events, vl0 a0.N.Sets, .d (eL none (eL none (D.int .u16)) a0.N.States), .d (.int .u64 a0.Known), vl0 a0.Heard, vl0 a0.Told, vl2 a0.Order])], 1⟩ ?_ ?_
  ·
   refine step (v := vs3 a0) (st_ldV (ds := [eL (some 2) eapi_Event a0.N.Events, eL none (D.int .u64) a0.N.Sets, eL none (eL none (D.int .u16)) a0.N.States, .int .u64 a0.Known, eL none (D.int .u64) a0.Heard, eL none (D.int .u64) a0.Told, eL none (D.int .i64) a0.Order]) rfl rfl (show 7 ≤ 7 by decide) rfl) ?_
   refine step (v := V.undef) (σ' := (upd (stab [(0, .var [vl1 a0.N.Events, vl0 a0.N.Sets, .d (eL none (eL none (D.int .u16)) a0.N.States), .d (.int .u64 a0.Known), vl0 a0.Heard, vl0 a0.Told, vl2 a0.Order]), (1, .var [vl1 [], vl0 [], .d (eL none (eL none (D.int .u16)) []), .d (.int .u64 0), vl0 [], vl0 [], vl2 []])]) 1 (some (.var [vl1 a0.N.Events, vl0 a0.N.Sets, .d (eL none (eL none (D.int .u16)) a0.N.States), .d (.int .u64 a0.Known), vl0 a0.Heard, vl0 a0.Told, vl2 a0.Order])))) (n' := 2) rfl ?_
   refine q1 _ ?_
   exact nR [1]
  have hh := Option.some.inj h
  subst hh
  refine NWp.ret ?_
  show FQ _ _ _ _
  exact FQ.mkT (.inr rfl) (res_cell (ds := [eL (some 2) eapi_Event a0.N.Events, eL none (D.int .u64) a0.N.Sets, eL none (eL none (D.int .u16)) a0.N.States, .int .u64 a0.Known, eL none (D.int .u64) a0.Heard, eL none (D.int .u64) a0.Told, eL none (D.int .i64) a0.Order]) rfl rfl (show 7 ≤ 7 by decide) rfl (res_t (v := vi 1) rfl rfl)) (RV.d (RV.d trivial))
 ·
  replace h := iteF hc2 h
  refine NWp.condF (t := ((decide (a1 < 0)) || (decide (a1 ≥ (a0.Heard.length : Int))))) rfl hc2 ?_
  refine NWp.skip ?_
  refine NWp.seq ?_
  obtain ⟨r3, hr3, h⟩ := bindE h
  obtain ⟨y6, hv, h⟩ := bindE h
  refine NWp.opsJ ⟨tab [(1, vi a1), (2, .d (.int .u64 a2)), (3, .ptr 0 0 0), (6, .ptr 1 0 0), (35, vb y6)], stab [(0, .var [vl1 a0.N.Events, vl0 a0.N.Sets, .d (eL none (eL none (D.int .u16)) a0.N.States), .d (.int .u64 a0.Known), vl0 a0.Heard, vl0 a0.Told, vl2 a0.Order]), (1, .var [vl1 [], vl0 [], .d (eL none (eL none (D.int .u16)) []), .d (.int .u64 0), vl0 [], vl0 [], vl2 []])], 2⟩ ?_ ?_
  ·
   refine q1 _ ?_
   refine step (v := vs1 a0.N) (st_ldV (ds := [eL (some 2) eapi_Event a0.N.Events, eL none (D.int .u64) a0.N.Sets, eL none (eL none (D.int .u16)) a0.N.States]) rfl rfl (show 3 ≤ 7 by decide) rfl) ?_
   refine q1 _ ?_
   refine stepC (r := .int .i64 r3) (ArgsOk.dt (ArgsOk.dt ArgsOk.nil')) (c_ref12_Tag hr3) ?_
   iterate 2 refine q1 _ ?_
   by_cases hg4 : decide (r3 < 0) = true
   ·
    replace hv := iteT hg4 hv
    iterate 8 refine qX (decide (r3 < 0)) (by rw [hg4]; decide) ?_
    refine step (v := vb true) (st_pickT (b := decide (r3 < 0)) rfl hg4 rfl) ?_
    have hh := Option.some.inj hv
    subst hh
    exact nR [0, 1]
   ·
    replace hv := iteF hg4 hv
    obtain ⟨r5, hr5, hv⟩ := bindE hv
    refine qG (decide (r3 < 0)) (Bool.eq_false_iff.2 hg4) ?_
    refine q1 _ ?_
    refine qG (decide (r3 < 0)) (Bool.eq_false_iff.2 hg4) ?_
    refine step (v := vs1 a0.N) (st_ldV (ds := [eL (some 2) eapi_Event a0.N.Events, eL none (D.int .u64) a0.N.Sets, eL none (eL none (D.int .u16)) a0.N.States]) rfl rfl (show 3 ≤ 7 by decide) rfl) ?_
    refine qG (decide (r3 < 0)) (Bool.eq_false_iff.2 hg4) ?_
    refine q1 _ ?_
    refine qG (decide (r3 < 0)) (Bool.eq_false_iff.2 hg4) ?_
    refine q1 _ ?_
    refine qG (decide (r3 < 0)) (Bool.eq_false_iff.2 hg4) ?_
    refine q1 _ ?_
    refine qG (decide (r3 < 0)) (Bool.eq_false_iff.2 hg4) ?_
    refine q1 _ ?_
    refine qG (decide (r3 < 0)) (Bool.eq_false_iff.2 hg4) ?_
    refine stepC (r := .int .i64 r5) (ArgsOk.dt (ArgsOk.dt ArgsOk.nil')) (c_ref12_Tag hr5) ?_
    refine qG (decide (r3 < 0)) (Bool.eq_false_iff.2 hg4) ?_
    refine q1 _ ?_
    refine step (v := vb (decide (r5 < 0))) (st_pickF (b := decide (r3 < 0)) rfl hg4 rfl) ?_
    have hh := Option.some.inj hv
    subst hh
    exact nR [0, 1]
  by_cases hc8 : y6 = true
  ·
   replace h := iteT hc8 h
   refine NWp.condT (t := y6) rfl hc8 ?_
   refine NWp.opsJ ⟨tab [(6, .ptr 0 0 0), (7, vi 31)], stab [(0, .var [vl1 a0.N.Events, vl0 a0.N.Sets, .d (eL none (eL none (D.int .u16)) a0.N.States), .d (.int .u64 a0.Known), vl0 a0.Heard, vl0 a0.Told, vl2 a0.Order])], 1⟩ ?_ ?_
   ·
    refine step (v := vs3 a0) (st_ldV (ds := [eL (some 2) eapi_Event a0.N.Events, eL none (D.int .u64) a0.N.Sets, eL none (eL none (D.int .u16)) a0.N.States, .int .u64 a0.Known, eL none (D.int .u64) a0.Heard, eL none (D.int .u64) a0.Told, eL none (D.int .i64) a0.Order]) rfl rfl (show 7 ≤ 7 by decide) rfl) ?_
    refine step (v := V.undef) (σ' := (upd (stab [(0, .var [vl1 a0.N.Events, vl0 a0.N.Sets, .d (eL none (eL none (D.int .u16)) a0.N.States), .d (.int .u64 a0.Known), vl0 a0.Heard, vl0 a0.Told, vl2 a0.Order]), (1, .var [vl1 [], vl0 [], .d (eL none (eL none (D.int .u16)) []), .d (.int .u64 0), vl0 [], vl0 [], vl2 []])]) 1 (some (.var [vl1 a0.N.Events, vl0 a0.N.Sets, .d (eL none (eL none (D.int .u16)) a0.N.States), .d (.int .u64 a0.Known), vl0 a0.Heard, vl0 a0.Told, vl2 a0.Order])))) (n' := 2) rfl ?_
    refine q1 _ ?_
    exact nR [1]
   have hh := Option.some.inj h
   subst hh
   refine NWp.ret ?_
   show FQ _ _ _ _
   exact FQ.mkT (.inr rfl) (res_cell (ds := [eL (some 2) eapi_Event a0.N.Events, eL none (D.int .u64) a0.N.Sets, eL none (eL none (D.int .u16)) a0.N.States, .int .u64 a0.Known, eL none (D.int .u64) a0.Heard, eL none (D.int .u64) a0.Told, eL none (D.int .i64) a0.Order]) rfl rfl (show 7 ≤ 7 by decide) rfl (res_t (v := vi 31) rfl rfl)) (RV.d (RV.d trivial))
  ·
   replace h := iteF hc8 h
   refine NWp.condF (t := y6) rfl hc8 ?_
   refine NWp.skip ?_
   obtain ⟨l9, hl9, h⟩ := bindE h
   refine NWp.opsJ ⟨tab [(1, vi a1), (2, .d (.int .u64 a2)), (3, .ptr 0 0 0), (6, .ptr 1 0 0), (8, .loc 2 0 l9.length)], stab [(0, .var [vl1 a0.N.Events, vl0 a0.N.Sets, .d (eL none (eL none (D.int .u16)) a0.N.States), .d (.int .u64 a0.Known), vl0 a0.Heard, vl0 a0.Told, vl2 a0.Order]), (1, .var [vl1 [], vl0 [], .d (eL none (eL none (D.int .u16)) []), .d (.int .u64 0), vl0 [], vl0 [], vl2 []]), (2, .lst false none (List.map (D.int .i64) l9))], 3⟩ ?_ ?_
   ·
    refine step (v := .loc 2 0 (([] : List Int).length)) (σ' := (upd (stab [(0, .var [vl1 a0.N.Events, vl0 a0.N.Sets, .d (eL none (eL none (D.int .u16)) a0.N.States), .d (.int .u64 a0.Known), vl0 a0.Heard, vl0 a0.Told, vl2 a0.Order]), (1, .var [vl1 [], vl0 [], .d (eL none (eL none (D.int .u16)) []), .d (.int .u64 0), vl0 [], vl0 [], vl2 []])]) 2 (some (.lst false none (List.map (D.int .i64) ([] : List Int)))))) (n' := 3) rfl ?_
    iterate 2 refine q1 _ ?_
    refine step (v := .loc 3 0 l9.length) (σ' := (upd (upd (upd (stab [(0, .var [vl1 a0.N.Events, vl0 a0.N.Sets, .d (eL none (eL none (D.int .u16)) a0.N.States), .d (.int .u64 a0.Known), vl0 a0.Heard, vl0 a0.Told, vl2 a0.Order]), (1, .var [vl1 [], vl0 [], .d (eL none (eL none (D.int .u16)) []), .d (.int .u64 0), vl0 [], vl0 [], vl2 []])]) 2 (some (.lst false none (List.map (D.int .i64) ([] : List Int))))) 2 none) 3 (some (.lst false none (List.map (D.int .i64) l9))))) (n' := 4) (st_app (xs := ([] : List Int)) (ys := a0.Order) (e := (D.int .i64)) hl9 rfl rfl rfl (src_v (xs := a0.Order) (e := (D.int .i64)) rfl)) ?_
    refine q1 _ ?_
    exact nR [0, 1, 3]
   refine NWp.seq ?_
   refine NWp.opsJ ⟨tab [(1, vi a1), (2, .d (.int .u64 a2)), (3, .ptr 0 0 0), (6, .ptr 1 0 0), (8, .loc 2 0 l9.length), (9, vi 0)], stab [(0, .var [vl1 a0.N.Events, vl0 a0.N.Sets, .d (eL none (eL none (D.int .u16)) a0.N.States), .d (.int .u64 a0.Known), vl0 a0.Heard, vl0 a0.Told, vl2 a0.Order]), (1, .var [vl1 [], vl0 [], .d (eL none (eL none (D.int .u16)) []), .d (.int .u64 0), vl0 [], vl0 [], vl2 []]), (2, .lst false none (List.map (D.int .i64) l9))], 3⟩ ?_ ?_
   ·
    refine q1 _ ?_
    exact nR [0, 1, 2]
   obtain ⟨z26, hl, h⟩ := bindE h
   refine NWp.block ?_
   refine loop_forO (cntU 64) (fun (i11 : Int) (qq : (List Int)) => ⟨tab [(1, vi a1), (2, .d (.int .u64 a2)), (3, .ptr 0 0 0), (6, .ptr 1 0 0), (8, .loc 2 0 qq.length), (9, vi i11)], stab [(0, .var [vl1 a0.N.Events, vl0 a0.N.Sets, .d (eL none (eL none (D.int .u16)) a0.N.States), .d (.int .u64 a0.Known), vl0 a0.Heard, vl0 a0.Told, vl2 a0.Order]), (1, .var [vl1 [], vl0 [], .d (eL none (eL none (D.int .u16)) []), .d (.int .u64 0), vl0 [], vl0 [], vl2 []]), (2, .lst false none (List.map (D.int .i64) qq))], 3⟩) 0 (fun (qq : (List Int)) => ⟨tab [(1, vi a1), (2, .d (.int .u64 a2)), (3, .ptr 0 0 0), (6, .ptr 1 0 0), (8, .loc 2 0 qq.length)], stab [(0, .var [vl1 a0.N.Events, vl0 a0.N.Sets, .d (eL none (eL none (D.int .u16)) a0.N.States), .d (.int .u64 a0.Known), vl0 a0.Heard, vl0 a0.Told, vl2 a0.Order]), (1, .var [vl1 [], vl0 [], .d (eL none (eL none (D.int .u16)) []), .d (.int .u64 0), vl0 [], vl0 [], vl2 []]), (2, .lst false none (List.map (D.int .i64) qq))], 3⟩) Low low_step hl (by unfold Low; omega) ?_ ?_ ?_
   ·
    rintro i11 l10 xr16 hinv14 hgo13 h
    show NWp _ _ _ _ _ ⟨tab [(1, vi a1), (2, .d (.int .u64 a2)), (3, .ptr 0 0 0), (6, .ptr 1 0 0), (8, .loc 2 0 l10.length), (9, vi i11)], stab [(0, .var [vl1 a0.N.Events, vl0 a0.N.Sets, .d (eL none (eL none (D.int .u16)) a0.N.States), .d (.int .u64 a0.Known), vl0 a0.Heard, vl0 a0.Told, vl2 a0.Order]), (1, .var [vl1 [], vl0 [], .d (eL none (eL none (D.int .u16)) []), .d (.int .u64 0), vl0 [], vl0 [], vl2 []]), (2, .lst false none (List.map (D.int .i64) l10))], 3⟩
    have hc15 : decide (i11 < 64) = true := decide_eq_true hgo13
    refine NWp.seq ?_
    refine NWp.opsJ ⟨tab [(1, vi a1), (2, .d (.int .u64 a2)), (3, .ptr 0 0 0), (6, .ptr 1 0 0), (8, .loc 2 0 l10.length), (9, vi i11), (42, vb (decide (i11 < 64)))], stab [(0, .var [vl1 a0.N.Events, vl0 a0.N.Sets, .d (eL none (eL none (D.int .u16)) a0.N.States), .d (.int .u64 a0.Known), vl0 a0.Heard, vl0 a0.Told, vl2 a0.Order]), (1, .var [vl1 [], vl0 [], .d (eL none (eL none (D.int .u16)) []), .d (.int .u64 0), vl0 [], vl0 [], vl2 []]), (2, .lst false none (List.map (D.int .i64) l10))], 3⟩ ?_ ?_
    ·
     iterate 2 refine q1 _ ?_
     exact nR [0, 1, 2]
    refine NWp.condT (t := decide (i11 < 64)) rfl hc15 ?_
    refine NWp.skip ?_
    obtain ⟨l24, hv, h⟩ := bindE h
    refine NWp.seqN ⟨tab [(1, vi a1), (2, .d (.int .u64 a2)), (3, .ptr 0 0 0), (6, .ptr 1 0 0), (8, .loc 2 0 l24.length), (9, vi i11)], stab [(0, .var [vl1 a0.N.Events, vl0 a0.N.Sets, .d (eL none (eL none (D.int .u16)) a0.N.States), .d (.int .u64 a0.Known), vl0 a0.Heard, vl0 a0.Told, vl2 a0.Order]), (1, .var [vl1 [], vl0 [], .d (eL none (eL none (D.int .u16)) []), .d (.int .u64 0), vl0 [], vl0 [], vl2 []]), (2, .lst false none (List.map (D.int .i64) l24))], 3⟩ ?_ ?_
    ·
     replace h := hv
     refine NWp.block ?_
     obtain ⟨r17, hr17, h⟩ := bindE h
     obtain ⟨y20, hv, h⟩ := bindE h
     refine NWp.opsJ ⟨tab [(1, vi a1), (2, .d (.int .u64 a2)), (3, .ptr 0 0 0), (6, .ptr 1 0 0), (8, .loc 2 0 l10.length), (9, vi i11), (54, vb y20)], stab [(0, .var [vl1 a0.N.Events, vl0 a0.N.Sets, .d (eL none (eL none (D.int .u16)) a0.N.States), .d (.int .u64 a0.Known), vl0 a0.Heard, vl0 a0.Told, vl2 a0.Order]), (1, .var [vl1 [], vl0 [], .d (eL none (eL none (D.int .u16)) []), .d (.int .u64 0), vl0 [], vl0 [], vl2 []]), (2, .lst false none (List.map (D.int .i64) l10))], 3⟩ ?_ ?_
     ·
      iterate 2 refine q1 _ ?_
      refine stepC (r := .bool r17) (ArgsOk.dt (ArgsOk.dt ArgsOk.nil')) (c_ref02_Has hr17) ?_
      refine q1 _ ?_
      by_cases hg18 : r17 = true
      ·
       replace hv := iteT hg18 hv
       obtain ⟨r19, hr19, hv⟩ := bindE hv
       refine qG _ hg18 ?_
       refine q1 _ ?_
       refine qG _ hg18 ?_
       refine q1 _ ?_
       refine qG _ hg18 ?_
       refine q1 _ ?_
       refine qG _ hg18 ?_
       refine stepC (r := .bool r19) (ArgsOk.dt (ArgsOk.dt ArgsOk.nil')) (c_ref02_Has hr19) ?_
       refine qG _ hg18 ?_
       refine q1 _ ?_
       refine step (v := vb (!r19)) (st_pickT (b := r17) rfl hg18 rfl) ?_
       have hh := Option.some.inj hv
       subst hh
       exact nR [0, 1, 2]
      ·
       replace hv := iteF hg18 hv
       iterate 5 refine qX _ hg18 ?_
       refine step (v := vb false) (st_pickF (b := r17) rfl hg18 rfl) ?_
       have hh := Option.some.inj hv
       subst hh
       exact nR [0, 1, 2]
     by_cases hc22 : y20 = true
     ·
      replace h := iteT hc22 h
      refine NWp.condT (t := y20) rfl hc22 ?_
      obtain ⟨l23, hl23, h⟩ := bindE h
      have hh := Option.some.inj h
      subst hh
      refine NWp.opsE ⟨tab [(1, vi a1), (2, .d (.int .u64 a2)), (3, .ptr 0 0 0), (6, .ptr 1 0 0), (8, .loc 2 0 l23.length), (9, vi i11)], stab [(0, .var [vl1 a0.N.Events, vl0 a0.N.Sets, .d (eL none (eL none (D.int .u16)) a0.N.States), .d (.int .u64 a0.Known), vl0 a0.Heard, vl0 a0.Told, vl2 a0.Order]), (1, .var [vl1 [], vl0 [], .d (eL none (eL none (D.int .u16)) []), .d (.int .u64 0), vl0 [], vl0 [], vl2 []]), (2, .lst false none (List.map (D.int .i64) l23))], 3⟩ ?_ ?_
      ·
       iterate 3 refine q1 _ ?_
       refine step (v := .loc 3 0 l23.length) (σ' := (upd (upd (stab [(0, .var [vl1 a0.N.Events, vl0 a0.N.Sets, .d (eL none (eL none (D.int .u16)) a0.N.States), .d (.int .u64 a0.Known), vl0 a0.Heard, vl0 a0.Told, vl2 a0.Order]), (1, .var [vl1 [], vl0 [], .d (eL none (eL none (D.int .u16)) []), .d (.int .u64 0), vl0 [], vl0 [], vl2 []]), (2, .lst false none (List.map (D.int .i64) l10))]) 2 none) 3 (some (.lst false none (List.map (D.int .i64) l23))))) (n' := 4) (st_app (xs := l10) (ys := ([i11] : List Int)) (e := (D.int .i64)) hl23 rfl rfl rfl (src_v (xs := ([i11] : List Int)) (e := (D.int .i64)) rfl)) ?_
       refine q1 _ ?_
       exact nR [0, 1, 3]
      exact And.intro rfl rfl
     ·
      replace h := iteF hc22 h
      refine NWp.condF (t := y20) rfl hc22 ?_
      have hh := Option.some.inj h
      subst hh
      refine NWp.norm (s0 := ⟨tab [(1, vi a1), (2, .d (.int .u64 a2)), (3, .ptr 0 0 0), (6, .ptr 1 0 0), (8, .loc 2 0 l10.length), (9, vi i11)], stab [(0, .var [vl1 a0.N.Events, vl0 a0.N.Sets, .d (eL none (eL none (D.int .u16)) a0.N.States), .d (.int .u64 a0.Known), vl0 a0.Heard, vl0 a0.Told, vl2 a0.Order]), (1, .var [vl1 [], vl0 [], .d (eL none (eL none (D.int .u16)) []), .d (.int .u64 0), vl0 [], vl0 [], vl2 []]), (2, .lst false none (List.map (D.int .i64) l10))], 3⟩) (nr [0, 1, 2]) ?_
      refine NWp.skip ?_
      exact And.intro rfl rfl
    have hh := Option.some.inj h
    subst hh
    refine NWp.opsE ⟨tab [(1, vi a1), (2, .d (.int .u64 a2)), (3, .ptr 0 0 0), (6, .ptr 1 0 0), (8, .loc 2 0 l24.length), (9, vi (i11 + 1))], stab [(0, .var [vl1 a0.N.Events, vl0 a0.N.Sets, .d (eL none (eL none (D.int .u16)) a0.N.States), .d (.int .u64 a0.Known), vl0 a0.Heard, vl0 a0.Told, vl2 a0.Order]), (1, .var [vl1 [], vl0 [], .d (eL none (eL none (D.int .u16)) []), .d (.int .u64 0), vl0 [], vl0 [], vl2 []]), (2, .lst false none (List.map (D.int .i64) l24))], 3⟩ ?_ ?_
    ·
     refine q1 _ ?_
     refine step (v := vi (i11 + 1)) (st_inc (inc_ok hinv14 hgo13 (by decide)) rfl rfl) ?_
     refine q1 _ ?_
     exact nR [0, 1, 2]
    exact And.intro rfl rfl
   ·
    rintro i11 l10 hinv14 hgo13
    show NWp _ _ _ _ _ ⟨tab [(1, vi a1), (2, .d (.int .u64 a2)), (3, .ptr 0 0 0), (6, .ptr 1 0 0), (8, .loc 2 0 l10.length), (9, vi i11)], stab [(0, .var [vl1 a0.N.Events, vl0 a0.N.Sets, .d (eL none (eL none (D.int .u16)) a0.N.States), .d (.int .u64 a0.Known), vl0 a0.Heard, vl0 a0.Told, vl2 a0.Order]), (1, .var [vl1 [], vl0 [], .d (eL none (eL none (D.int .u16)) []), .d (.int .u64 0), vl0 [], vl0 [], vl2 []]), (2, .lst false none (List.map (D.int .i64) l10))], 3⟩
    have hc15 : ¬ (decide (i11 < 64) = true) := fun hq => hgo13 (of_decide_eq_true hq)
    refine NWp.seq ?_
    refine NWp.opsJ ⟨tab [(1, vi a1), (2, .d (.int .u64 a2)), (3, .ptr 0 0 0), (6, .ptr 1 0 0), (8, .loc 2 0 l10.length), (9, vi i11), (42, vb (decide (i11 < 64)))], stab [(0, .var [vl1 a0.N.Events, vl0 a0.N.Sets, .d (eL none (eL none (D.int .u16)) a0.N.States), .d (.int .u64 a0.Known), vl0 a0.Heard, vl0 a0.Told, vl2 a0.Order]), (1, .var [vl1 [], vl0 [], .d (eL none (eL none (D.int .u16)) []), .d (.int .u64 0), vl0 [], vl0 [], vl2 []]), (2, .lst false none (List.map (D.int .i64) l10))], 3⟩ ?_ ?_
    ·
     iterate 2 refine q1 _ ?_
     exact nR [0, 1, 2]
    refine NWp.condF (t := decide (i11 < 64)) rfl hc15 ?_
    refine NWp.norm (s0 := ⟨tab [(1, vi a1), (2, .d (.int .u64 a2)), (3, .ptr 0 0 0), (6, .ptr 1 0 0), (8, .loc 2 0 l10.length)], stab [(0, .var [vl1 a0.N.Events, vl0 a0.N.Sets, .d (eL none (eL none (D.int .u16)) a0.N.States), .d (.int .u64 a0.Known), vl0 a0.Heard, vl0 a0.Told, vl2 a0.Order]), (1, .var [vl1 [], vl0 [], .d (eL none (eL none (D.int .u16)) []), .d (.int .u64 0), vl0 [], vl0 [], vl2 []]), (2, .lst false none (List.map (D.int .i64) l10))], 3⟩) (nr [0, 1, 2]) ?_
    refine NWp.exit ?_
    exact And.intro rfl rfl
   obtain ⟨l27, hl27, h⟩ := bindE h
   refine NWp.opsJ ⟨tab [(1, vi a1), (2, .d (.int .u64 a2)), (3, .ptr 0 0 0), (6, .ptr 1 0 0), (8, .loc 2 0 z26.length), (10, .loc 3 0 l27.length)], stab [(0, .var [vl1 a0.N.Events, vl0 a0.N.Sets, .d (eL none (eL none (D.int .u16)) a0.N.States), .d (.int .u64 a0.Known), vl0 a0.Heard, vl0 a0.Told, vl2 a0.Order]), (1, .var [vl1 [], vl0 [], .d (eL none (eL none (D.int .u16)) []), .d (.int .u64 0), vl0 [], vl0 [], vl2 []]), (2, .lst false none (List.map (D.int .i64) z26)), (3, .lst true none (List.map (D.int .u64) l27))], 4⟩ ?_ ?_
   ·
    refine step (v := .loc 3 0 (([] : List Int).length)) (σ' := (upd (stab [(0, .var [vl1 a0.N.Events, vl0 a0.N.Sets, .d (eL none (eL none (D.int .u16)) a0.N.States), .d (.int .u64 a0.Known), vl0 a0.Heard, vl0 a0.Told, vl2 a0.Order]), (1, .var [vl1 [], vl0 [], .d (eL none (eL none (D.int .u16)) []), .d (.int .u64 0), vl0 [], vl0 [], vl2 []]), (2, .lst false none (List.map (D.int .i64) z26))]) 3 (some (.lst true none (List.map (D.int .u64) ([] : List Int)))))) (n' := 4) rfl ?_
    iterate 2 refine q1 _ ?_
    refine step (v := .loc 4 0 l27.length) (σ' := (upd (upd (upd (stab [(0, .var [vl1 a0.N.Events, vl0 a0.N.Sets, .d (eL none (eL none (D.int .u16)) a0.N.States), .d (.int .u64 a0.Known), vl0 a0.Heard, vl0 a0.Told, vl2 a0.Order]), (1, .var [vl1 [], vl0 [], .d (eL none (eL none (D.int .u16)) []), .d (.int .u64 0), vl0 [], vl0 [], vl2 []]), (2, .lst false none (List.map (D.int .i64) z26))]) 3 (some (.lst true none (List.map (D.int .u64) ([] : List Int))))) 3 none) 4 (some (.lst true none (List.map (D.int .u64) l27))))) (n' := 5) (st_app (xs := ([] : List Int)) (ys := a0.Heard) (e := (D.int .u64)) hl27 rfl rfl rfl (src_v (xs := a0.Heard) (e := (D.int .u64)) rfl)) ?_
    refine q1 _ ?_
    exact nR [0, 1, 2, 4]
   obtain ⟨x28, hx28, h⟩ := bindE h
   obtain ⟨l29, hl29, h⟩ := bindE h
   refine NWp.opsJ ⟨tab [(2, .d (.int .u64 a2)), (3, .ptr 0 0 0), (6, .ptr 1 0 0), (8, .loc 2 0 z26.length), (10, .loc 3 0 l29.length)], stab [(0, .var [vl1 a0.N.Events, vl0 a0.N.Sets, .d (eL none (eL none (D.int .u16)) a0.N.States), .d (.int .u64 a0.Known), vl0 a0.Heard, vl0 a0.Told, vl2 a0.Order]), (1, .var [vl1 [], vl0 [], .d (eL none (eL none (D.int .u16)) []), .d (.int .u64 0), vl0 [], vl0 [], vl2 []]), (2, .lst false none (List.map (D.int .i64) z26)), (3, .lst true none (List.map (D.int .u64) l29))], 4⟩ ?_ ?_
   ·
    iterate 3 refine q1 _ ?_
    refine step (v := .ptr 3 a1.toNat 0) (st_iaddrL (xs := l27) (e := (D.int .u64)) hx28 rfl rfl rfl rfl) ?_
    refine step (v := V.undef) (σ' := (upd (stab [(0, .var [vl1 a0.N.Events, vl0 a0.N.Sets, .d (eL none (eL none (D.int .u16)) a0.N.States), .d (.int .u64 a0.Known), vl0 a0.Heard, vl0 a0.Told, vl2 a0.Order]), (1, .var [vl1 [], vl0 [], .d (eL none (eL none (D.int .u16)) []), .d (.int .u64 0), vl0 [], vl0 [], vl2 []]), (2, .lst false none (List.map (D.int .i64) z26)), (3, .lst true none (List.map (D.int .u64) l27))]) 3 (some (.lst true none (List.map (D.int .u64) l29))))) (n' := 4) (st_storeL' (e := (D.int .u64)) (v' := a2) hl29 rfl rfl rfl rfl rfl) ?_
    exact RunOps.nil' (nm [0, 1, 2, 3] ⟨.d _, .pt 0, .pt 1, .lc 2, .le (id := 3) (gput_len hl29).symm (show 3 < 4 by decide), trivial⟩ ⟨⟨show 0 < 4 by decide, _, rfl, .vars ⟨.d _, .d _, .d _, .d _, .d _, .d _, .d _, trivial⟩⟩, ⟨show 1 < 4 by decide, _, rfl, .vars ⟨.d _, .d _, .d _, .d _, .d _, .d _, .d _, trivial⟩⟩, ⟨show 2 < 4 by decide, _, rfl, .lst _ _ _⟩, ⟨show 3 < 4 by decide, _, rfl, .lst _ _ _⟩, trivial⟩)
   refine NWp.opsJ ⟨tab [(3, .ptr 0 0 0), (6, .ptr 1 0 0), (8, .loc 2 0 z26.length), (10, .loc 3 0 l29.length)], stab [(0, .var [vl1 a0.N.Events, vl0 a0.N.Sets, .d (eL none (eL none (D.int .u16)) a0.N.States), .d (.int .u64 (orI .u64 a0.Known a2)), vl0 a0.Heard, vl0 a0.Told, vl2 a0.Order]), (1, .var [vl1 [], vl0 [], .d (eL none (eL none (D.int .u16)) []), .d (.int .u64 0), vl0 [], vl0 [], vl2 []]), (2, .lst false none (List.map (D.int .i64) z26)), (3, .lst true none (List.map (D.int .u64) l29))], 4⟩ ?_ ?_
   ·
    iterate 5 refine q1 _ ?_
    refine step (v := V.undef) (σ' := (upd (stab [(0, .var [vl1 a0.N.Events, vl0 a0.N.Sets, .d (eL none (eL none (D.int .u16)) a0.N.States), .d (.int .u64 a0.Known), vl0 a0.Heard, vl0 a0.Told, vl2 a0.Order]), (1, .var [vl1 [], vl0 [], .d (eL none (eL none (D.int .u16)) []), .d (.int .u64 0), vl0 [], vl0 [], vl2 []]), (2, .lst false none (List.map (D.int .i64) z26)), (3, .lst true none (List.map (D.int .u64) l29))]) 0 (some (.var [vl1 a0.N.Events, vl0 a0.N.Sets, .d (eL none (eL none (D.int .u16)) a0.N.States), .d (.int .u64 (orI .u64 a0.Known a2)), vl0 a0.Heard, vl0 a0.Told, vl2 a0.Order])))) (n' := 4) rfl ?_
    exact nR [0, 1, 2, 3]
   refine NWp.opsJ ⟨tab [(3, .ptr 0 0 0), (6, .ptr 2 0 0), (10, .loc 3 0 l29.length)], stab [(0, .var [vl1 a0.N.Events, vl0 a0.N.Sets, .d (eL none (eL none (D.int .u16)) a0.N.States), .d (.int .u64 (orI .u64 a0.Known a2)), vl0 a0.Heard, vl0 a0.Told, .loc 1 0 z26.length]), (1, .lst false none (List.map (D.int .i64) z26)), (2, .var [vl1 [], vl0 [], .d (eL none (eL none (D.int .u16)) []), .d (.int .u64 0), vl0 [], vl0 [], vl2 []]), (3, .lst true none (List.map (D.int .u64) l29))], 4⟩ ?_ ?_
   ·
    iterate 2 refine q1 _ ?_
    refine step (v := V.undef) (σ' := (upd (stab [(0, .var [vl1 a0.N.Events, vl0 a0.N.Sets, .d (eL none (eL none (D.int .u16)) a0.N.States), .d (.int .u64 (orI .u64 a0.Known a2)), vl0 a0.Heard, vl0 a0.Told, vl2 a0.Order]), (1, .var [vl1 [], vl0 [], .d (eL none (eL none (D.int .u16)) []), .d (.int .u64 0), vl0 [], vl0 [], vl2 []]), (2, .lst false none (List.map (D.int .i64) z26)), (3, .lst true none (List.map (D.int .u64) l29))]) 0 (some (.var [vl1 a0.N.Events, vl0 a0.N.Sets, .d (eL none (eL none (D.int .u16)) a0.N.States), .d (.int .u64 (orI .u64 a0.Known a2)), vl0 a0.Heard, vl0 a0.Told, .loc 2 0 z26.length])))) (n' := 4) rfl ?_
    exact nR [0, 2, 1, 3]
   refine NWp.opsJ ⟨tab [(3, .ptr 0 0 0), (6, .ptr 3 0 0)], stab [(0, .var [vl1 a0.N.Events, vl0 a0.N.Sets, .d (eL none (eL none (D.int .u16)) a0.N.States), .d (.int .u64 (orI .u64 a0.Known a2)), .loc 1 0 l29.length, vl0 a0.Told, .loc 2 0 z26.length]), (1, .lst true none (List.map (D.int .u64) l29)), (2, .lst false none (List.map (D.int .i64) z26)), (3, .var [vl1 [], vl0 [], .d (eL none (eL none (D.int .u16)) []), .d (.int .u64 0), vl0 [], vl0 [], vl2 []])], 4⟩ ?_ ?_
   ·
    iterate 2 refine q1 _ ?_
    refine step (v := V.undef) (σ' := (upd (stab [(0, .var [vl1 a0.N.Events, vl0 a0.N.Sets, .d (eL none (eL none (D.int .u16)) a0.N.States), .d (.int .u64 (orI .u64 a0.Known a2)), vl0 a0.Heard, vl0 a0.Told, .loc 1 0 z26.length]), (1, .lst false none (List.map (D.int .i64) z26)), (2, .var [vl1 [], vl0 [], .d (eL none (eL none (D.int .u16)) []), .d (.int .u64 0), vl0 [], vl0 [], vl2 []]), (3, .lst true none (List.map (D.int .u64) l29))]) 0 (some (.var [vl1 a0.N.Events, vl0 a0.N.Sets, .d (eL none (eL none (D.int .u16)) a0.N.States), .d (.int .u64 (orI .u64 a0.Known a2)), .loc 3 0 l29.length, vl0 a0.Told, .loc 1 0 z26.length])))) (n' := 4) rfl ?_
    exact nR [0, 3, 1, 2]
   refine NWp.opsJ ⟨tab [(6, .ptr 0 0 0), (7, vi 0)], stab [(0, .var [vl1 a0.N.Events, vl0 a0.N.Sets, .d (eL none (eL none (D.int .u16)) a0.N.States), .d (.int .u64 (orI .u64 a0.Known a2)), .loc 1 0 l29.length, vl0 a0.Told, .loc 2 0 z26.length]), (1, .lst true none (List.map (D.int .u64) l29)), (2, .lst false none (List.map (D.int .i64) z26))], 3⟩ ?_ ?_
   ·
    refine q1 _ ?_
    refine step (v := V.undef) (σ' := (upd (stab [(0, .var [vl1 a0.N.Events, vl0 a0.N.Sets, .d (eL none (eL none (D.int .u16)) a0.N.States), .d (.int .u64 (orI .u64 a0.Known a2)), .loc 1 0 l29.length, vl0 a0.Told, .loc 2 0 z26.length]), (1, .lst true none (List.map (D.int .u64) l29)), (2, .lst false none (List.map (D.int .i64) z26)), (3, .var [vl1 [], vl0 [], .d (eL none (eL none (D.int .u16)) []), .d (.int .u64 0), vl0 [], vl0 [], vl2 []])]) 3 (some (.var [vl1 a0.N.Events, vl0 a0.N.Sets, .d (eL none (eL none (D.int .u16)) a0.N.States), .d (.int .u64 (orI .u64 a0.Known a2)), .loc 1 0 l29.length, vl0 a0.Told, .loc 2 0 z26.length])))) (n' := 4) rfl ?_
    refine q1 _ ?_
    exact nR [3, 1, 2]
   have hh := Option.some.inj h
   subst hh
   refine NWp.ret ?_
   show FQ _ _ _ _
   exact FQ.mkT (.inr rfl) rfl (RV.agg (RV0.d (RV0.d (RV0.d (RV0.d (RV0.loc (xs := l29) (e := (D.int .u64)) rfl rfl (RV0.d (RV0.loc (xs := z26) (e := (D.int .i64)) rfl rfl trivial))))))) (RV.d trivial))

theorem c_events_In {a0 : Int} {a1 : Int} {r : Bool} (h : events_In a0 a1 = some r) : PCall Tryd.prog 31 [.int .u64 a0, .int .u64 a1] (.bool r) := by
 refine PCall.introN ok31 (show 2 ≤ 9 by decide) ?_
 refine NWp.norm (s0 := ⟨tab [(0, .d (.int .u64 a0)), (1, .d (.int .u64 a1))], stab [], 0⟩) (nr []) ?_
 refine NWp.opsJ ⟨tab [(0, .d (.int .u64 a0)), (1, .d (.int .u64 a1))], stab [], 0⟩ ?_ ?_
 ·
  refine q1 _ ?_
  exact nR []
 refine NWp.opsJ ⟨tab [(4, vb ((andNotI .u64 a0 a1) == 0))], stab [], 0⟩ ?_ ?_
 ·
  iterate 5 refine q1 _ ?_
  exact nR []
 have hh := Option.some.inj h
 subst hh
 refine NWp.ret ?_
 show FQ _ _ _ _
 exact FQ.mk1 (.inr rfl) (res_t (v := vb ((andNotI .u64 a0 a1) == 0)) rfl rfl) (RV.d trivial)

theorem c_ctrl_Ctrl_Owes {a0 : ctrl_Ctrl} {a1 : Int} {r : Bool} (h : ctrl_Ctrl_Owes a0 a1 = some r) : PCall Tryd.prog 18 [.cptr (some 6) (ectrl_Ctrl a0) 0, .int .i64 a1] (.bool r) := by
 refine PCall.introN ok18 (show 2 ≤ 33 by decide) ?_
 refine NWp.norm (s0 := ⟨tab [(0, vp6 a0), (1, vi a1)], stab [], 0⟩) (nr []) ?_
 refine NWp.opsJ ⟨tab [(0, vp6 a0), (1, vi a1)], stab [], 0⟩ ?_ ?_
 ·
  refine q1 _ ?_
  exact nR []
 obtain ⟨r1, hr1, h⟩ := bindE h
 obtain ⟨y5, hv, h⟩ := bindE h
 refine NWp.opsJ ⟨tab [(4, vb y5)], stab [], 0⟩ ?_ ?_
 ·
  iterate 2 refine q1 _ ?_
  refine stepC (r := .bool r1) (ArgsOk.dt (ArgsOk.dt ArgsOk.nil')) (c_ctrl_Ctrl_has hr1) ?_
  refine q1 _ ?_
  by_cases hg2 : r1 = true
  ·
   replace hv := iteT hg2 hv
   obtain ⟨x3, hx3, hv⟩ := bindE hv
   obtain ⟨r4, hr4, hv⟩ := bindE hv
   refine qG _ hg2 ?_
   refine q1 _ ?_
   refine qG _ hg2 ?_
   refine q1 _ ?_
   refine qG _ hg2 ?_
   refine q1 _ ?_
   refine qG _ hg2 ?_
   refine q1 _ ?_
   refine qG _ hg2 ?_
   refine q1 _ ?_
   refine qG _ hg2 ?_
   refine q1 _ ?_
   refine qG _ hg2 ?_
   refine q1 _ ?_
   refine qG _ hg2 ?_
   refine q1 _ ?_
   refine qG _ hg2 ?_
   refine q1 _ ?_
   refine qG _ hg2 ?_
   refine step (v := .d (.cptr (some 2) (ectrl_peer x3) 0)) (st_iaddr (xs := a0.peers) (e := ectrl_peer) hx3 rfl rfl) ?_
   refine qG _ hg2 ?_
   refine q1 _ ?_
   refine qG _ hg2 ?_
   refine q1 _ ?_
   refine qG _ hg2 ?_
   refine q1 _ ?_
   refine qG _ hg2 ?_
   refine q1 _ ?_
   refine qG _ hg2 ?_
   refine q1 _ ?_
   refine qG _ hg2 ?_
   refine q1 _ ?_
   refine qG _ hg2 ?_
   refine q1 _ ?_
   refine qG _ hg2 ?_
   refine step (v := .d (.cptr (some 2) (ectrl_peer x3) 0)) (st_iaddr (xs := a0.peers) (e := ectrl_peer) hx3 rfl rfl) ?_
   refine qG _ hg2 ?_
   refine q1 _ ?_
   refine qG _ hg2 ?_
   refine q1 _ ?_
   refine qG _ hg2 ?_
   refine q1 _ ?_
   refine qG _ hg2 ?_
   refine stepC (r := .bool r4) (ArgsOk.dt (ArgsOk.dt ArgsOk.nil')) (c_events_In hr4) ?_
   refine qG _ hg2 ?_
   refine q1 _ ?_
   refine step (v := vb (!r4)) (st_pickT (b := r1) rfl hg2 rfl) ?_
   refine q1 _ ?_
   have hh := Option.some.inj hv
   subst hh
   exact nR []
  ·
   replace hv := iteF hg2 hv
   iterate 23 refine qX _ hg2 ?_
   refine step (v := vb false) (st_pickF (b := r1) rfl hg2 rfl) ?_
   refine q1 _ ?_
   have hh := Option.some.inj hv
   subst hh
   exact nR []
 have hh := Option.some.inj h
 subst hh
 refine NWp.ret ?_
 show FQ _ _ _ _
 exact FQ.mk1 (.inr rfl) (res_t (v := vb y5) rfl rfl) (RV.d trivial)

theorem c_ref18_Ctrl_Owes {a0 : ref18_Ctrl} {a1 : Int} {r : Bool} (h : ref18_Ctrl_Owes a0 a1 = some r) : PCall Tryd.prog 19 [eref18_Ctrl a0, .int .i64 a1] (.bool r) := by
 refine PCall.introN ok19 (show 2 ≤ 33 by decide) ?_
 refine NWp.norm (s0 := ⟨tab [(0, vs3 a0), (1, vi a1)], stab [], 0⟩) (nr []) ?_
 refine NWp.opsJ ⟨tab [(1, vi a1), (2, .d (.cptr (some 7) (eref18_Ctrl a0) 0))], stab [], 0⟩ ?_ ?_
 ·
  iterate 2 refine q1 _ ?_
  exact nR []
 obtain ⟨y5, hv, h⟩ := bindE h
 refine NWp.opsJ ⟨tab [(4, vb y5)], stab [], 0⟩ ?_ ?_
 ·
  iterate 3 refine q1 _ ?_
  by_cases hg1 : decide (a1 ≥ 0) = true
  ·
   replace hv := iteT hg1 hv
   refine qG _ hg1 ?_
   refine q1 _ ?_
   refine qG _ hg1 ?_
   refine q1 _ ?_
   refine qG _ hg1 ?_
   refine q1 _ ?_
   refine qG _ hg1 ?_
   refine step (v := vi (a0.Told.length : Int)) (st_len (xs := a0.Told) (e := (D.int .u64)) rfl) ?_
   refine qG _ hg1 ?_
   refine q1 _ ?_
   refine step (v := vb (decide (a1 < (a0.Told.length : Int)))) (st_pickT (b := decide (a1 ≥ 0)) rfl hg1 rfl) ?_
   refine q1 _ ?_
   by_cases hg2 : decide (a1 < (a0.Told.length : Int)) = true
   ·
    replace hv := iteT hg2 hv
    obtain ⟨x3, hx3, hv⟩ := bindE hv
    obtain ⟨x4, hx4, hv⟩ := bindE hv
    refine qG _ hg2 ?_
    refine q1 _ ?_
    refine qG _ hg2 ?_
    refine q1 _ ?_
    refine qG _ hg2 ?_
    refine q1 _ ?_
    refine qG _ hg2 ?_
    refine q1 _ ?_
    refine qG _ hg2 ?_
    refine q1 _ ?_
    refine qG _ hg2 ?_
    refine step (v := .d (.cptr none (.int .u64 x3) 0)) (st_iaddr (xs := a0.Told) (e := (D.int .u64)) hx3 rfl rfl) ?_
    refine qG _ hg2 ?_
    refine q1 _ ?_
    refine qG _ hg2 ?_
    refine q1 _ ?_
    refine qG _ hg2 ?_
    refine q1 _ ?_
    refine qG _ hg2 ?_
    refine q1 _ ?_
    refine qG _ hg2 ?_
    refine step (v := .d (.cptr none (.int .u64 x4) 0)) (st_iaddr (xs := a0.Heard) (e := (D.int .u64)) hx4 rfl rfl) ?_
    refine qG _ hg2 ?_
    refine q1 _ ?_
    refine qG _ hg2 ?_
    refine q1 _ ?_
    refine qG _ hg2 ?_
    refine q1 _ ?_
    refine qG _ hg2 ?_
    refine q1 _ ?_
    refine qG _ hg2 ?_
    refine q1 _ ?_
    refine qG _ hg2 ?_
    refine q1 _ ?_
    refine step (v := vb ((andI .u64 a0.Known (orI .u64 x3 x4)) != a0.Known)) (st_pickT (b := decide (a1 < (a0.Told.length : Int))) rfl hg2 rfl) ?_
    refine q1 _ ?_
    have hh := Option.some.inj hv
    subst hh
    exact nR []
   ·
    replace hv := iteF hg2 hv
    iterate 17 refine qX _ hg2 ?_
    refine step (v := vb false) (st_pickF (b := decide (a1 < (a0.Told.length : Int))) rfl hg2 rfl) ?_
    refine q1 _ ?_
    have hh := Option.some.inj hv
    subst hh
    exact nR []
  ·
   replace hv := iteF hg1 hv
   iterate 5 refine qX _ hg1 ?_
   refine step (v := vb false) (st_pickF (b := decide (a1 ≥ 0)) rfl hg1 rfl) ?_
   refine q1 _ ?_
   iterate 17 refine qX false (by decide) ?_
   refine step (v := vb false) (st_pickF (b := false) rfl (by decide) rfl) ?_
   refine q1 _ ?_
   have hh := Option.some.inj hv
   subst hh
   exact nR []
 have hh := Option.some.inj h
 subst hh
 refine NWp.ret ?_
 show FQ _ _ _ _
 exact FQ.mk1 (.inr rfl) (res_t (v := vb y5) rfl rfl) (RV.d trivial)


end Go.AM
