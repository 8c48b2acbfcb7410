import Derived.Test.YtfjelgjfbjjopaaMfE
/-  What they are in the program: walks. -/
set_option linter.unusedVariables false
set_option linter.unusedSimpArgs false
namespace Go.AM
open Go Go.RowKit Go.Proofs

attribute [local irreducible] RunOps RunOpsL
set_option maxHeartbeats 2000000

theorem c_slices_EqualFunc_api_Row {a0 : (List api_Row)} {a1 : (List api_Row)} {a2 : api_Row → api_Row → Option Bool} {g_a2 : D} (hf_a2 : Fn2 Try.prog g_a2 eapi_Row eapi_Row D.bool a2) {r : Bool} (h : slices_EqualFunc_api_Row a0 a1 a2 = some r) : PCall Try.prog 86 [eL (some 2) eapi_Row a0, eL (some 2) eapi_Row a1, g_a2] (.bool r) := by
 obtain ⟨fn_a2, cap_a2, rfl, hc_a2⟩ := hf_a2
 refine PCall.introN ok86 (show 3 ≤ 32 by decide) ?_
 refine NWp.norm (s0 := ⟨tab [(0, vl1 a0), (1, vl1 a1), (2, .d (.func fn_a2 cap_a2))], stab [], 0⟩) (nr []) ?_
 refine NWp.opsJ ⟨tab [(0, vl1 a0), (1, vl1 a1), (2, .d (.func fn_a2 cap_a2))], stab [], 0⟩ ?_ ?_
 ·
  refine q1 _ ?_
  exact nR []
 refine NWp.seq ?_
 refine NWp.opsJ ⟨tab [(0, vl1 a0), (1, vl1 a1), (2, .d (.func fn_a2 cap_a2)), (14, vb ((a0.length : Int) != (a1.length : Int)))], stab [], 0⟩ ?_ ?_
 ·
  refine q1 _ ?_
  refine step (v := vi (a0.length : Int)) (st_len (xs := a0) (e := eapi_Row) rfl) ?_
  refine q1 _ ?_
  refine step (v := vi (a1.length : Int)) (st_len (xs := a1) (e := eapi_Row) rfl) ?_
  refine q1 _ ?_
  exact nR []
 by_cases hc1 : ((a0.length : Int) != (a1.length : Int)) = true
 ·
  replace h := iteT hc1 h
  refine NWp.condT (t := ((a0.length : Int) != (a1.length : Int))) rfl hc1 ?_
  refine NWp.opsJ ⟨tab [(6, vb false)], stab [], 0⟩ ?_ ?_
  ·
   refine q1 _ ?_
   exact nR []
  have hh := Option.some.inj h
  subst hh
  refine NWp.ret ?_
  show FQ _ _ _ _
  exact FQ.mk1 (.inr rfl) (res_t (v := vb false) rfl rfl) (RV.d trivial)
 ·
  replace h := iteF hc1 h
  refine NWp.condF (t := ((a0.length : Int) != (a1.length : Int))) rfl hc1 ?_
  refine NWp.skip ?_
  refine NWp.seq ?_
  refine NWp.opsJ ⟨tab [(1, vl1 a1), (2, .d (.func fn_a2 cap_a2)), (15, vl1 a0), (16, vi (a0.length : Int)), (17, vi 0)], stab [], 0⟩ ?_ ?_
  ·
   refine q1 _ ?_
   refine step (v := vi (a0.length : Int)) (st_len (xs := a0) (e := eapi_Row) rfl) ?_
   refine q1 _ ?_
   exact nR []
  obtain ⟨q12, hl, h⟩ := bindE h
  refine NWp.block ?_
  refine loop_forR (cntU (a0.length : Int)) (fun (i2 : Int) (qq : Unit) => ⟨tab [(1, vl1 a1), (2, .d (.func fn_a2 cap_a2)), (15, vl1 a0), (16, vi (a0.length : Int)), (17, vi i2)], stab [], 0⟩) 0 (fun (qq : Unit) => ⟨tab [], stab [], 0⟩) Low low_step (r := r) hl (by unfold Low; omega) ?_ ?_ ?_ ?_
  ·
   rintro i2 ⟨⟩ xr7 hinv5 hgo4 h
   show NWp _ _ _ _ _ ⟨tab [(1, vl1 a1), (2, .d (.func fn_a2 cap_a2)), (15, vl1 a0), (16, vi (a0.length : Int)), (17, vi i2)], stab [], 0⟩
   have hc6 : decide (i2 < (a0.length : Int)) = true := decide_eq_true hgo4
   refine NWp.opsJ ⟨tab [(1, vl1 a1), (2, .d (.func fn_a2 cap_a2)), (15, vl1 a0), (16, vi (a0.length : Int)), (17, vi i2), (18, vb (decide (i2 < (a0.length : Int))))], stab [], 0⟩ ?_ ?_
   ·
    refine q1 _ ?_
    exact nR []
   refine NWp.rng 16 rfl fun hB3 => ?_
   refine NWp.seq ?_
   refine NWp.condT (t := decide (i2 < (a0.length : Int))) rfl hc6 ?_
   refine NWp.skip ?_
   refine NWp.seq ?_
   refine NWp.block ?_
   obtain ⟨x8, hx8, h⟩ := bindE h
   refine NWp.opsJ ⟨tab [(1, vl1 a1), (2, .d (.func fn_a2 cap_a2)), (7, vi i2), (8, .ptr 0 0 0), (15, vl1 a0), (16, vi (a0.length : Int)), (17, vi i2)], stab [(0, .var [vl0 x8.Match, .d (eL none (eL (some 2) eapi_Pair) x8.Acts)])], 1⟩ ?_ ?_
   ·
    refine q1 _ ?_
    refine step (v := vp2 x8) (st_iaddr (xs := a0) (e := eapi_Row) hx8 rfl rfl) ?_
    refine q1 _ ?_
    refine step (v := .ptr 0 0 0) (σ' := (upd (stab []) 0 (some (.var [vl0 [], .d (eL none (eL (some 2) eapi_Pair) [])])))) (n' := 1) rfl ?_
    refine q1 _ ?_
    refine step (v := V.undef) (σ' := (upd (upd (stab []) 0 (some (.var [vl0 [], .d (eL none (eL (some 2) eapi_Pair) [])]))) 0 (some (.var [vl0 x8.Match, .d (eL none (eL (some 2) eapi_Pair) x8.Acts)])))) (n' := 1) rfl ?_
    exact nR [0]
   obtain ⟨x9, hx9, h⟩ := bindE h
   refine NWp.opsJ ⟨tab [(1, vl1 a1), (2, .d (.func fn_a2 cap_a2)), (8, .ptr 0 0 0), (9, .ptr 1 0 0), (15, vl1 a0), (16, vi (a0.length : Int)), (17, vi i2)], stab [(0, .var [vl0 x8.Match, .d (eL none (eL (some 2) eapi_Pair) x8.Acts)]), (1, .var [vl0 x9.Match, .d (eL none (eL (some 2) eapi_Pair) x9.Acts)])], 2⟩ ?_ ?_
   ·
    iterate 2 refine q1 _ ?_
    refine step (v := vp2 x9) (st_iaddr (xs := a1) (e := eapi_Row) hx9 rfl rfl) ?_
    refine q1 _ ?_
    refine step (v := .ptr 1 0 0) (σ' := (upd (stab [(0, .var [vl0 x8.Match, .d (eL none (eL (some 2) eapi_Pair) x8.Acts)])]) 1 (some (.var [vl0 [], .d (eL none (eL (some 2) eapi_Pair) [])])))) (n' := 2) rfl ?_
    refine step (v := V.undef) (σ' := (upd (upd (stab [(0, .var [vl0 x8.Match, .d (eL none (eL (some 2) eapi_Pair) x8.Acts)])]) 1 (some (.var [vl0 [], .d (eL none (eL (some 2) eapi_Pair) [])]))) 1 (some (.var [vl0 x9.Match, .d (eL none (eL (some 2) eapi_Pair) x9.Acts)])))) (n' := 2) rfl ?_
    exact nR [0, 1]
   obtain ⟨x10, hx10, h⟩ := bindE h
   refine NWp.opsJ ⟨tab [(1, vl1 a1), (2, .d (.func fn_a2 cap_a2)), (15, vl1 a0), (16, vi (a0.length : Int)), (17, vi i2), (30, vb (!x10))], stab [], 0⟩ ?_ ?_
   ·
    refine q1 _ ?_
    refine step (v := vs3 x8) (st_ldV (ds := [eL (some 2) eapi_Pair x8.Match, eL none (eL (some 2) eapi_Pair) x8.Acts]) rfl rfl (show 2 ≤ 2 by decide) rfl) ?_
    refine step (v := vs3 x9) (st_ldV (ds := [eL (some 2) eapi_Pair x9.Match, eL none (eL (some 2) eapi_Pair) x9.Acts]) rfl rfl (show 2 ≤ 2 by decide) rfl) ?_
    refine stepV' (r := .bool x10) rfl (ArgsOk.dt (ArgsOk.dt ArgsOk.nil')) (hc_a2 _ _ _ hx10) ?_
    refine q1 _ ?_
    exact nR []
   by_cases hc11 : (!x10) = true
   ·
    replace h := iteT hc11 h
    refine NWp.condT (t := (!x10)) rfl hc11 ?_
    refine NWp.opsJ ⟨tab [(6, vb false)], stab [], 0⟩ ?_ ?_
    ·
     refine q1 _ ?_
     exact nR []
    obtain ⟨r12, kr12, hr⟩ := mapE (o := some false) (g := Br.ret) h
    subst hr
    have h := kr12
    have hh := Option.some.inj h
    subst hh
    refine NWp.ret ?_
    refine And.intro (fun hn => nomatch hn) ?_
    intro hq
    have hq := hq.symm
    subst hq
    show FQ _ _ _ _
    exact FQ.mk1 (.inr rfl) (res_t (v := vb false) rfl rfl) (RV.d trivial)
   ·
    replace h := iteF hc11 h
    refine NWp.condF (t := (!x10)) rfl hc11 ?_
    refine NWp.skip ?_
    have hh := Option.some.inj h
    subst hh
    refine NWp.opsE ⟨tab [(1, vl1 a1), (2, .d (.func fn_a2 cap_a2)), (15, vl1 a0), (16, vi (a0.length : Int)), (17, vi (i2 + 1))], stab [], 0⟩ ?_ ?_
    ·
     refine step (v := vi (i2 + 1)) (st_inc (inc_ok hinv5 hgo4 hB3) rfl rfl) ?_
     refine q1 _ ?_
     exact nR []
    exact And.intro rfl rfl
  ·
   rintro i2 ⟨⟩ hinv5 hgo4
   show NWp _ _ _ _ _ ⟨tab [(1, vl1 a1), (2, .d (.func fn_a2 cap_a2)), (15, vl1 a0), (16, vi (a0.length : Int)), (17, vi i2)], stab [], 0⟩
   have hc6 : ¬ (decide (i2 < (a0.length : Int)) = true) := fun hq => hgo4 (of_decide_eq_true hq)
   refine NWp.opsJ ⟨tab [(1, vl1 a1), (2, .d (.func fn_a2 cap_a2)), (15, vl1 a0), (16, vi (a0.length : Int)), (17, vi i2), (18, vb (decide (i2 < (a0.length : Int))))], stab [], 0⟩ ?_ ?_
   ·
    refine q1 _ ?_
    exact nR []
   refine NWp.seq ?_
   refine NWp.condF (t := decide (i2 < (a0.length : Int))) rfl hc6 ?_
   refine NWp.norm (s0 := ⟨tab [], stab [], 0⟩) (nr []) ?_
   refine NWp.exit ?_
   exact And.intro rfl rfl
  ·
   intro r' hq
   subst hq
   exact Option.some.inj h
  rintro ⟨⟩ rfl
  refine NWp.opsJ ⟨tab [(6, vb true)], stab [], 0⟩ ?_ ?_
  ·
   refine q1 _ ?_
   exact nR []
  have hh := Option.some.inj h
  subst hh
  refine NWp.ret ?_
  show FQ _ _ _ _
  exact FQ.mk1 (.inr rfl) (res_t (v := vb true) rfl rfl) (RV.d trivial)

theorem c_slices_Equal_api_Pair {a0 : (List api_Pair)} {a1 : (List api_Pair)} {r : Bool} (h : slices_Equal_api_Pair a0 a1 = some r) : PCall Try.prog 76 [eL (some 2) eapi_Pair a0, eL (some 2) eapi_Pair a1] (.bool r) := by
 refine PCall.introN ok76 (show 2 ≤ 26 by decide) ?_
 refine NWp.norm (s0 := ⟨tab [(0, vl0 a0), (1, vl0 a1)], stab [], 0⟩) (nr []) ?_
 refine NWp.opsJ ⟨tab [(0, vl0 a0), (1, vl0 a1)], stab [], 0⟩ ?_ ?_
 ·
  refine q1 _ ?_
  exact nR []
 refine NWp.seq ?_
 refine NWp.opsJ ⟨tab [(0, vl0 a0), (1, vl0 a1), (10, vb ((a0.length : Int) != (a1.length : Int)))], stab [], 0⟩ ?_ ?_
 ·
  refine q1 _ ?_
  refine step (v := vi (a0.length : Int)) (st_len (xs := a0) (e := eapi_Pair) rfl) ?_
  refine q1 _ ?_
  refine step (v := vi (a1.length : Int)) (st_len (xs := a1) (e := eapi_Pair) rfl) ?_
  refine q1 _ ?_
  exact nR []
 by_cases hc1 : ((a0.length : Int) != (a1.length : Int)) = true
 ·
  replace h := iteT hc1 h
  refine NWp.condT (t := ((a0.length : Int) != (a1.length : Int))) rfl hc1 ?_
  refine NWp.opsJ ⟨tab [(4, vb false)], stab [], 0⟩ ?_ ?_
  ·
   refine q1 _ ?_
   exact nR []
  have hh := Option.some.inj h
  subst hh
  refine NWp.ret ?_
  show FQ _ _ _ _
  exact FQ.mk1 (.inr rfl) (res_t (v := vb false) rfl rfl) (RV.d trivial)
 ·
  replace h := iteF hc1 h
  refine NWp.condF (t := ((a0.length : Int) != (a1.length : Int))) rfl hc1 ?_
  refine NWp.skip ?_
  refine NWp.seq ?_
  refine NWp.opsJ ⟨tab [(0, vl0 a0), (1, vl0 a1), (12, vi (a0.length : Int)), (13, vi 0)], stab [], 0⟩ ?_ ?_
  ·
   refine q1 _ ?_
   refine step (v := vi (a0.length : Int)) (st_len (xs := a0) (e := eapi_Pair) rfl) ?_
   refine q1 _ ?_
   exact nR []
  obtain ⟨q11, hl, h⟩ := bindE h
  refine NWp.block ?_
  refine loop_forR (cntU (a0.length : Int)) (fun (i2 : Int) (qq : Unit) => ⟨tab [(0, vl0 a0), (1, vl0 a1), (12, vi (a0.length : Int)), (13, vi i2)], stab [], 0⟩) 0 (fun (qq : Unit) => ⟨tab [], stab [], 0⟩) Low low_step (r := r) hl (by unfold Low; omega) ?_ ?_ ?_ ?_
  ·
   rintro i2 ⟨⟩ xr7 hinv5 hgo4 h
   show NWp _ _ _ _ _ ⟨tab [(0, vl0 a0), (1, vl0 a1), (12, vi (a0.length : Int)), (13, vi i2)], stab [], 0⟩
   have hc6 : decide (i2 < (a0.length : Int)) = true := decide_eq_true hgo4
   refine NWp.opsJ ⟨tab [(0, vl0 a0), (1, vl0 a1), (12, vi (a0.length : Int)), (13, vi i2), (14, vb (decide (i2 < (a0.length : Int))))], stab [], 0⟩ ?_ ?_
   ·
    refine q1 _ ?_
    exact nR []
   refine NWp.rng 12 rfl fun hB3 => ?_
   refine NWp.seq ?_
   refine NWp.condT (t := decide (i2 < (a0.length : Int))) rfl hc6 ?_
   refine NWp.skip ?_
   refine NWp.seq ?_
   refine NWp.block ?_
   refine NWp.opsJ ⟨tab [(0, vl0 a0), (1, vl0 a1), (5, vi i2), (12, vi (a0.length : Int)), (13, vi i2)], stab [], 0⟩ ?_ ?_
   ·
    iterate 2 refine q1 _ ?_
    exact nR []
   obtain ⟨x8, hx8, h⟩ := bindE h
   obtain ⟨x9, hx9, h⟩ := bindE h
   refine NWp.opsJ ⟨tab [(0, vl0 a0), (1, vl0 a1), (12, vi (a0.length : Int)), (13, vi i2), (24, vb (!(x8 == x9)))], stab [], 0⟩ ?_ ?_
   ·
    iterate 2 refine q1 _ ?_
    refine step (v := vp1 x8) (st_iaddr (xs := a0) (e := eapi_Pair) hx8 rfl rfl) ?_
    iterate 3 refine q1 _ ?_
    refine step (v := vp1 x9) (st_iaddr (xs := a1) (e := eapi_Pair) hx9 rfl rfl) ?_
    refine q1 _ ?_
    refine step (v := vb (!(x8 == x9))) (st_eqS (neg := true) rfl rfl (eqS_api_Pair x8 x9)) ?_
    exact nR []
   by_cases hc10 : (!(x8 == x9)) = true
   ·
    replace h := iteT hc10 h
    refine NWp.condT (t := (!(x8 == x9))) rfl hc10 ?_
    refine NWp.opsJ ⟨tab [(4, vb false)], stab [], 0⟩ ?_ ?_
    ·
     refine q1 _ ?_
     exact nR []
    obtain ⟨r11, kr11, hr⟩ := mapE (o := some false) (g := Br.ret) h
    subst hr
    have h := kr11
    have hh := Option.some.inj h
    subst hh
    refine NWp.ret ?_
    refine And.intro (fun hn => nomatch hn) ?_
    intro hq
    have hq := hq.symm
    subst hq
    show FQ _ _ _ _
    exact FQ.mk1 (.inr rfl) (res_t (v := vb false) rfl rfl) (RV.d trivial)
   ·
    replace h := iteF hc10 h
    refine NWp.condF (t := (!(x8 == x9))) rfl hc10 ?_
    refine NWp.skip ?_
    have hh := Option.some.inj h
    subst hh
    refine NWp.opsE ⟨tab [(0, vl0 a0), (1, vl0 a1), (12, vi (a0.length : Int)), (13, vi (i2 + 1))], stab [], 0⟩ ?_ ?_
    ·
     refine step (v := vi (i2 + 1)) (st_inc (inc_ok hinv5 hgo4 hB3) rfl rfl) ?_
     refine q1 _ ?_
     exact nR []
    exact And.intro rfl rfl
  ·
   rintro i2 ⟨⟩ hinv5 hgo4
   show NWp _ _ _ _ _ ⟨tab [(0, vl0 a0), (1, vl0 a1), (12, vi (a0.length : Int)), (13, vi i2)], stab [], 0⟩
   have hc6 : ¬ (decide (i2 < (a0.length : Int)) = true) := fun hq => hgo4 (of_decide_eq_true hq)
   refine NWp.opsJ ⟨tab [(0, vl0 a0), (1, vl0 a1), (12, vi (a0.length : Int)), (13, vi i2), (14, vb (decide (i2 < (a0.length : Int))))], stab [], 0⟩ ?_ ?_
   ·
    refine q1 _ ?_
    exact nR []
   refine NWp.seq ?_
   refine NWp.condF (t := decide (i2 < (a0.length : Int))) rfl hc6 ?_
   refine NWp.norm (s0 := ⟨tab [], stab [], 0⟩) (nr []) ?_
   refine NWp.exit ?_
   exact And.intro rfl rfl
  ·
   intro r' hq
   subst hq
   exact Option.some.inj h
  rintro ⟨⟩ rfl
  refine NWp.opsJ ⟨tab [(4, vb true)], stab [], 0⟩ ?_ ?_
  ·
   refine q1 _ ?_
   exact nR []
  have hh := Option.some.inj h
  subst hh
  refine NWp.ret ?_
  show FQ _ _ _ _
  exact FQ.mk1 (.inr rfl) (res_t (v := vb true) rfl rfl) (RV.d trivial)

theorem c_slices_EqualFunc_api_Act {a0 : (List (List api_Pair))} {a1 : (List (List api_Pair))} {a2 : (List api_Pair) → (List api_Pair) → Option Bool} {g_a2 : D} (hf_a2 : Fn2 Try.prog g_a2 (eL (some 2) eapi_Pair) (eL (some 2) eapi_Pair) D.bool a2) {r : Bool} (h : slices_EqualFunc_api_Act a0 a1 a2 = some r) : PCall Try.prog 77 [eL none (eL (some 2) eapi_Pair) a0, eL none (eL (some 2) eapi_Pair) a1, g_a2] (.bool r) := by
 obtain ⟨fn_a2, cap_a2, rfl, hc_a2⟩ := hf_a2
 refine PCall.introN ok77 (show 3 ≤ 32 by decide) ?_
 refine NWp.norm (s0 := ⟨tab [(0, .d (eL none (eL (some 2) eapi_Pair) a0)), (1, .d (eL none (eL (some 2) eapi_Pair) a1)), (2, .d (.func fn_a2 cap_a2))], stab [], 0⟩) (nr []) ?_
 refine NWp.opsJ ⟨tab [(0, .d (eL none (eL (some 2) eapi_Pair) a0)), (1, .d (eL none (eL (some 2) eapi_Pair) a1)), (2, .d (.func fn_a2 cap_a2))], stab [], 0⟩ ?_ ?_
 ·
  refine q1 _ ?_
  exact nR []
 refine NWp.seq ?_
 refine NWp.opsJ ⟨tab [(0, .d (eL none (eL (some 2) eapi_Pair) a0)), (1, .d (eL none (eL (some 2) eapi_Pair) a1)), (2, .d (.func fn_a2 cap_a2)), (14, vb ((a0.length : Int) != (a1.length : Int)))], stab [], 0⟩ ?_ ?_
 ·
  refine q1 _ ?_
  refine step (v := vi (a0.length : Int)) (st_len (xs := a0) (e := (eL (some 2) eapi_Pair)) rfl) ?_
  refine q1 _ ?_
  refine step (v := vi (a1.length : Int)) (st_len (xs := a1) (e := (eL (some 2) eapi_Pair)) rfl) ?_
  refine q1 _ ?_
  exact nR []
 by_cases hc1 : ((a0.length : Int) != (a1.length : Int)) = true
 ·
  replace h := iteT hc1 h
  refine NWp.condT (t := ((a0.length : Int) != (a1.length : Int))) rfl hc1 ?_
  refine NWp.opsJ ⟨tab [(6, vb false)], stab [], 0⟩ ?_ ?_
  ·
   refine q1 _ ?_
   exact nR []
  have hh := Option.some.inj h
  subst hh
  refine NWp.ret ?_
  show FQ _ _ _ _
  exact FQ.mk1 (.inr rfl) (res_t (v := vb false) rfl rfl) (RV.d trivial)
 ·
  replace h := iteF hc1 h
  refine NWp.condF (t := ((a0.length : Int) != (a1.length : Int))) rfl hc1 ?_
  refine NWp.skip ?_
  refine NWp.seq ?_
  refine NWp.opsJ ⟨tab [(1, .d (eL none (eL (some 2) eapi_Pair) a1)), (2, .d (.func fn_a2 cap_a2)), (15, .d (eL none (eL (some 2) eapi_Pair) a0)), (16, vi (a0.length : Int)), (17, vi 0)], stab [], 0⟩ ?_ ?_
  ·
   refine q1 _ ?_
   refine step (v := vi (a0.length : Int)) (st_len (xs := a0) (e := (eL (some 2) eapi_Pair)) rfl) ?_
   refine q1 _ ?_
   exact nR []
  obtain ⟨q12, hl, h⟩ := bindE h
  refine NWp.block ?_
  refine loop_forR (cntU (a0.length : Int)) (fun (i2 : Int) (qq : Unit) => ⟨tab [(1, .d (eL none (eL (some 2) eapi_Pair) a1)), (2, .d (.func fn_a2 cap_a2)), (15, .d (eL none (eL (some 2) eapi_Pair) a0)), (16, vi (a0.length : Int)), (17, vi i2)], stab [], 0⟩) 0 (fun (qq : Unit) => ⟨tab [], stab [], 0⟩) Low low_step (r := r) hl (by unfold Low; omega) ?_ ?_ ?_ ?_
  ·
   rintro i2 ⟨⟩ xr7 hinv5 hgo4 h
   show NWp _ _ _ _ _ ⟨tab [(1, .d (eL none (eL (some 2) eapi_Pair) a1)), (2, .d (.func fn_a2 cap_a2)), (15, .d (eL none (eL (some 2) eapi_Pair) a0)), (16, vi (a0.length : Int)), (17, vi i2)], stab [], 0⟩
   have hc6 : decide (i2 < (a0.length : Int)) = true := decide_eq_true hgo4
   refine NWp.opsJ ⟨tab [(1, .d (eL none (eL (some 2) eapi_Pair) a1)), (2, .d (.func fn_a2 cap_a2)), (15, .d (eL none (eL (some 2) eapi_Pair) a0)), (16, vi (a0.length : Int)), (17, vi i2), (18, vb (decide (i2 < (a0.length : Int))))], stab [], 0⟩ ?_ ?_
   ·
    refine q1 _ ?_
    exact nR []
   refine NWp.rng 16 rfl fun hB3 => ?_
   refine NWp.seq ?_
   refine NWp.condT (t := decide (i2 < (a0.length : Int))) rfl hc6 ?_
   refine NWp.skip ?_
   refine NWp.seq ?_
   refine NWp.block ?_
   obtain ⟨x8, hx8, h⟩ := bindE h
   refine NWp.opsJ ⟨tab [(1, .d (eL none (eL (some 2) eapi_Pair) a1)), (2, .d (.func fn_a2 cap_a2)), (7, vi i2), (8, vl0 x8), (15, .d (eL none (eL (some 2) eapi_Pair) a0)), (16, vi (a0.length : Int)), (17, vi i2)], stab [], 0⟩ ?_ ?_
   ·
    refine q1 _ ?_
    refine step (v := .d (.cptr none (eL (some 2) eapi_Pair x8) 0)) (st_iaddr (xs := a0) (e := (eL (some 2) eapi_Pair)) hx8 rfl rfl) ?_
    iterate 3 refine q1 _ ?_
    exact nR []
   obtain ⟨x9, hx9, h⟩ := bindE h
   refine NWp.opsJ ⟨tab [(1, .d (eL none (eL (some 2) eapi_Pair) a1)), (2, .d (.func fn_a2 cap_a2)), (8, vl0 x8), (9, vl0 x9), (15, .d (eL none (eL (some 2) eapi_Pair) a0)), (16, vi (a0.length : Int)), (17, vi i2)], stab [], 0⟩ ?_ ?_
   ·
    iterate 2 refine q1 _ ?_
    refine step (v := .d (.cptr none (eL (some 2) eapi_Pair x9) 0)) (st_iaddr (xs := a1) (e := (eL (some 2) eapi_Pair)) hx9 rfl rfl) ?_
    iterate 2 refine q1 _ ?_
    exact nR []
   obtain ⟨x10, hx10, h⟩ := bindE h
   refine NWp.opsJ ⟨tab [(1, .d (eL none (eL (some 2) eapi_Pair) a1)), (2, .d (.func fn_a2 cap_a2)), (15, .d (eL none (eL (some 2) eapi_Pair) a0)), (16, vi (a0.length : Int)), (17, vi i2), (30, vb (!x10))], stab [], 0⟩ ?_ ?_
   ·
    iterate 3 refine q1 _ ?_
    refine stepV' (r := .bool x10) rfl (ArgsOk.dt (ArgsOk.dt ArgsOk.nil')) (hc_a2 _ _ _ hx10) ?_
    refine q1 _ ?_
    exact nR []
   by_cases hc11 : (!x10) = true
   ·
    replace h := iteT hc11 h
    refine NWp.condT (t := (!x10)) rfl hc11 ?_
    refine NWp.opsJ ⟨tab [(6, vb false)], stab [], 0⟩ ?_ ?_
    ·
     refine q1 _ ?_
     exact nR []
    obtain ⟨r12, kr12, hr⟩ := mapE (o := some false) (g := Br.ret) h
    subst hr
    have h := kr12
    have hh := Option.some.inj h
    subst hh
    refine NWp.ret ?_
    refine And.intro (fun hn => nomatch hn) ?_
    intro hq
    have hq := hq.symm
    subst hq
    show FQ _ _ _ _
    exact FQ.mk1 (.inr rfl) (res_t (v := vb false) rfl rfl) (RV.d trivial)
   ·
    replace h := iteF hc11 h
    refine NWp.condF (t := (!x10)) rfl hc11 ?_
    refine NWp.skip ?_
    have hh := Option.some.inj h
    subst hh
    refine NWp.opsE ⟨tab [(1, .d (eL none (eL (some 2) eapi_Pair) a1)), (2, .d (.func fn_a2 cap_a2)), (15, .d (eL none (eL (some 2) eapi_Pair) a0)), (16, vi (a0.length : Int)), (17, vi (i2 + 1))], stab [], 0⟩ ?_ ?_
    ·
     refine step (v := vi (i2 + 1)) (st_inc (inc_ok hinv5 hgo4 hB3) rfl rfl) ?_
     refine q1 _ ?_
     exact nR []
    exact And.intro rfl rfl
  ·
   rintro i2 ⟨⟩ hinv5 hgo4
   show NWp _ _ _ _ _ ⟨tab [(1, .d (eL none (eL (some 2) eapi_Pair) a1)), (2, .d (.func fn_a2 cap_a2)), (15, .d (eL none (eL (some 2) eapi_Pair) a0)), (16, vi (a0.length : Int)), (17, vi i2)], stab [], 0⟩
   have hc6 : ¬ (decide (i2 < (a0.length : Int)) = true) := fun hq => hgo4 (of_decide_eq_true hq)
   refine NWp.opsJ ⟨tab [(1, .d (eL none (eL (some 2) eapi_Pair) a1)), (2, .d (.func fn_a2 cap_a2)), (15, .d (eL none (eL (some 2) eapi_Pair) a0)), (16, vi (a0.length : Int)), (17, vi i2), (18, vb (decide (i2 < (a0.length : Int))))], stab [], 0⟩ ?_ ?_
   ·
    refine q1 _ ?_
    exact nR []
   refine NWp.seq ?_
   refine NWp.condF (t := decide (i2 < (a0.length : Int))) rfl hc6 ?_
   refine NWp.norm (s0 := ⟨tab [], stab [], 0⟩) (nr []) ?_
   refine NWp.exit ?_
   exact And.intro rfl rfl
  ·
   intro r' hq
   subst hq
   exact Option.some.inj h
  rintro ⟨⟩ rfl
  refine NWp.opsJ ⟨tab [(6, vb true)], stab [], 0⟩ ?_ ?_
  ·
   refine q1 _ ?_
   exact nR []
  have hh := Option.some.inj h
  subst hh
  refine NWp.ret ?_
  show FQ _ _ _ _
  exact FQ.mk1 (.inr rfl) (res_t (v := vb true) rfl rfl) (RV.d trivial)

theorem c_slices_Equal_api_Pair_78 {a0 : (List api_Pair)} {a1 : (List api_Pair)} {r : Bool} (h : slices_Equal_api_Pair_78 a0 a1 = some r) : PCall Try.prog 78 [eL (some 2) eapi_Pair a0, eL (some 2) eapi_Pair a1] (.bool r) := by
 refine PCall.introN ok78 (show 2 ≤ 26 by decide) ?_
 refine NWp.norm (s0 := ⟨tab [(0, vl0 a0), (1, vl0 a1)], stab [], 0⟩) (nr []) ?_
 refine NWp.opsJ ⟨tab [(0, vl0 a0), (1, vl0 a1)], stab [], 0⟩ ?_ ?_
 ·
  refine q1 _ ?_
  exact nR []
 refine NWp.seq ?_
 refine NWp.opsJ ⟨tab [(0, vl0 a0), (1, vl0 a1), (10, vb ((a0.length : Int) != (a1.length : Int)))], stab [], 0⟩ ?_ ?_
 ·
  refine q1 _ ?_
  refine step (v := vi (a0.length : Int)) (st_len (xs := a0) (e := eapi_Pair) rfl) ?_
  refine q1 _ ?_
  refine step (v := vi (a1.length : Int)) (st_len (xs := a1) (e := eapi_Pair) rfl) ?_
  refine q1 _ ?_
  exact nR []
 by_cases hc1 : ((a0.length : Int) != (a1.length : Int)) = true
 ·
  replace h := iteT hc1 h
  refine NWp.condT (t := ((a0.length : Int) != (a1.length : Int))) rfl hc1 ?_
  refine NWp.opsJ ⟨tab [(4, vb false)], stab [], 0⟩ ?_ ?_
  ·
   refine q1 _ ?_
   exact nR []
  have hh := Option.some.inj h
  subst hh
  refine NWp.ret ?_
  show FQ _ _ _ _
  exact FQ.mk1 (.inr rfl) (res_t (v := vb false) rfl rfl) (RV.d trivial)
 ·
  replace h := iteF hc1 h
  refine NWp.condF (t := ((a0.length : Int) != (a1.length : Int))) rfl hc1 ?_
  refine NWp.skip ?_
  refine NWp.seq ?_
  refine NWp.opsJ ⟨tab [(0, vl0 a0), (1, vl0 a1), (12, vi (a0.length : Int)), (13, vi 0)], stab [], 0⟩ ?_ ?_
  ·
   refine q1 _ ?_
   refine step (v := vi (a0.length : Int)) (st_len (xs := a0) (e := eapi_Pair) rfl) ?_
   refine q1 _ ?_
   exact nR []
  obtain ⟨q11, hl, h⟩ := bindE h
  refine NWp.block ?_
  refine loop_forR (cntU (a0.length : Int)) (fun (i2 : Int) (qq : Unit) => ⟨tab [(0, vl0 a0), (1, vl0 a1), (12, vi (a0.length : Int)), (13, vi i2)], stab [], 0⟩) 0 (fun (qq : Unit) => ⟨tab [], stab [], 0⟩) Low low_step (r := r) hl (by unfold Low; omega) ?_ ?_ ?_ ?_
  ·
   rintro i2 ⟨⟩ xr7 hinv5 hgo4 h
   show NWp _ _ _ _ _ ⟨tab [(0, vl0 a0), (1, vl0 a1), (12, vi (a0.length : Int)), (13, vi i2)], stab [], 0⟩
   have hc6 : decide (i2 < (a0.length : Int)) = true := decide_eq_true hgo4
   refine NWp.opsJ ⟨tab [(0, vl0 a0), (1, vl0 a1), (12, vi (a0.length : Int)), (13, vi i2), (14, vb (decide (i2 < (a0.length : Int))))], stab [], 0⟩ ?_ ?_
   ·
    refine q1 _ ?_
    exact nR []
   refine NWp.rng 12 rfl fun hB3 => ?_
   refine NWp.seq ?_
   refine NWp.condT (t := decide (i2 < (a0.length : Int))) rfl hc6 ?_
   refine NWp.skip ?_
   refine NWp.seq ?_
   refine NWp.block ?_
   refine NWp.opsJ ⟨tab [(0, vl0 a0), (1, vl0 a1), (5, vi i2), (12, vi (a0.length : Int)), (13, vi i2)], stab [], 0⟩ ?_ ?_
   ·
    iterate 2 refine q1 _ ?_
    exact nR []
   obtain ⟨x8, hx8, h⟩ := bindE h
   obtain ⟨x9, hx9, h⟩ := bindE h
   refine NWp.opsJ ⟨tab [(0, vl0 a0), (1, vl0 a1), (12, vi (a0.length : Int)), (13, vi i2), (24, vb (!(x8 == x9)))], stab [], 0⟩ ?_ ?_
   ·
    iterate 2 refine q1 _ ?_
    refine step (v := vp1 x8) (st_iaddr (xs := a0) (e := eapi_Pair) hx8 rfl rfl) ?_
    iterate 3 refine q1 _ ?_
    refine step (v := vp1 x9) (st_iaddr (xs := a1) (e := eapi_Pair) hx9 rfl rfl) ?_
    refine q1 _ ?_
    refine step (v := vb (!(x8 == x9))) (st_eqS (neg := true) rfl rfl (eqS_api_Pair x8 x9)) ?_
    exact nR []
   by_cases hc10 : (!(x8 == x9)) = true
   ·
    replace h := iteT hc10 h
    refine NWp.condT (t := (!(x8 == x9))) rfl hc10 ?_
    refine NWp.opsJ ⟨tab [(4, vb false)], stab [], 0⟩ ?_ ?_
    ·
     refine q1 _ ?_
     exact nR []
    obtain ⟨r11, kr11, hr⟩ := mapE (o := some false) (g := Br.ret) h
    subst hr
    have h := kr11
    have hh := Option.some.inj h
    subst hh
    refine NWp.ret ?_
    refine And.intro (fun hn => nomatch hn) ?_
    intro hq
    have hq := hq.symm
    subst hq
    show FQ _ _ _ _
    exact FQ.mk1 (.inr rfl) (res_t (v := vb false) rfl rfl) (RV.d trivial)
   ·
    replace h := iteF hc10 h
    refine NWp.condF (t := (!(x8 == x9))) rfl hc10 ?_
    refine NWp.skip ?_
    have hh := Option.some.inj h
    subst hh
    refine NWp.opsE ⟨tab [(0, vl0 a0), (1, vl0 a1), (12, vi (a0.length : Int)), (13, vi (i2 + 1))], stab [], 0⟩ ?_ ?_
    ·
     refine step (v := vi (i2 + 1)) (st_inc (inc_ok hinv5 hgo4 hB3) rfl rfl) ?_
     refine q1 _ ?_
     exact nR []
    exact And.intro rfl rfl
  ·
   rintro i2 ⟨⟩ hinv5 hgo4
   show NWp _ _ _ _ _ ⟨tab [(0, vl0 a0), (1, vl0 a1), (12, vi (a0.length : Int)), (13, vi i2)], stab [], 0⟩
   have hc6 : ¬ (decide (i2 < (a0.length : Int)) = true) := fun hq => hgo4 (of_decide_eq_true hq)
   refine NWp.opsJ ⟨tab [(0, vl0 a0), (1, vl0 a1), (12, vi (a0.length : Int)), (13, vi i2), (14, vb (decide (i2 < (a0.length : Int))))], stab [], 0⟩ ?_ ?_
   ·
    refine q1 _ ?_
    exact nR []
   refine NWp.seq ?_
   refine NWp.condF (t := decide (i2 < (a0.length : Int))) rfl hc6 ?_
   refine NWp.norm (s0 := ⟨tab [], stab [], 0⟩) (nr []) ?_
   refine NWp.exit ?_
   exact And.intro rfl rfl
  ·
   intro r' hq
   subst hq
   exact Option.some.inj h
  rintro ⟨⟩ rfl
  refine NWp.opsJ ⟨tab [(4, vb true)], stab [], 0⟩ ?_ ?_
  ·
   refine q1 _ ?_
   exact nR []
  have hh := Option.some.inj h
  subst hh
  refine NWp.ret ?_
  show FQ _ _ _ _
  exact FQ.mk1 (.inr rfl) (res_t (v := vb true) rfl rfl) (RV.d trivial)

theorem c_table_Same_1 {a0 : api_Row} {a1 : api_Row} {r : Bool} (h : table_Same_1 a0 a1 = some r) : PCall Try.prog 87 [eapi_Row a0, eapi_Row a1] (.bool r) := by
 refine PCall.introN ok87 (show 2 ≤ 17 by decide) ?_
 refine NWp.norm (s0 := ⟨tab [(0, vs3 a0), (1, vs3 a1)], stab [], 0⟩) (nr []) ?_
 refine NWp.opsJ ⟨tab [(2, vp2 a0), (3, vp2 a1)], stab [], 0⟩ ?_ ?_
 ·
  iterate 3 refine q1 _ ?_
  exact nR []
 obtain ⟨r1, hr1, h⟩ := bindE h
 obtain ⟨y4, hv, h⟩ := bindE h
 refine NWp.opsJ ⟨tab [(4, vb y4)], stab [], 0⟩ ?_ ?_
 ·
  iterate 4 refine q1 _ ?_
  refine stepC (r := .bool r1) (ArgsOk.dt (ArgsOk.dt ArgsOk.nil')) (c_slices_Equal_api_Pair hr1) ?_
  refine q1 _ ?_
  by_cases hg2 : r1 = true
  ·
   replace hv := iteT hg2 hv
   obtain ⟨r3, hr3, hv⟩ := bindE hv
   refine qG _ hg2 ?_
   refine q1 _ ?_
   refine qG _ hg2 ?_
   refine q1 _ ?_
   refine qG _ hg2 ?_
   refine q1 _ ?_
   refine qG _ hg2 ?_
   refine q1 _ ?_
   refine qG _ hg2 ?_
   refine stepC (r := .bool r3) (ArgsOk.dt (ArgsOk.dt (ArgsOk.dt ArgsOk.nil'))) (c_slices_EqualFunc_api_Act ⟨78, [], rfl, fun _ _ _ h => c_slices_Equal_api_Pair_78 h⟩ hr3) ?_
   refine step (v := vb r3) (st_pickT (b := r1) rfl hg2 rfl) ?_
   refine q1 _ ?_
   have hh := Option.some.inj hv
   subst hh
   exact nR []
  ·
   replace hv := iteF hg2 hv
   iterate 5 refine qX _ hg2 ?_
   refine step (v := vb false) (st_pickF (b := r1) rfl hg2 rfl) ?_
   refine q1 _ ?_
   have hh := Option.some.inj hv
   subst hh
   exact nR []
 have hh := Option.some.inj h
 subst hh
 refine NWp.ret ?_
 show FQ _ _ _ _
 exact FQ.mk1 (.inr rfl) (res_t (v := vb y4) rfl rfl) (RV.d trivial)

theorem c_table_Same {a0 : (List api_Row)} {a1 : (List api_Row)} {r : Bool} (h : table_Same a0 a1 = some r) : PCall Try.prog 67 [eL (some 2) eapi_Row a0, eL (some 2) eapi_Row a1] (.bool r) := by
 refine PCall.introN ok67 (show 2 ≤ 8 by decide) ?_
 refine NWp.norm (s0 := ⟨tab [(0, vl1 a0), (1, vl1 a1)], stab [], 0⟩) (nr []) ?_
 refine NWp.opsJ ⟨tab [(0, vl1 a0), (1, vl1 a1)], stab [], 0⟩ ?_ ?_
 ·
  refine q1 _ ?_
  exact nR []
 obtain ⟨r1, hr1, h⟩ := bindE h
 refine NWp.opsJ ⟨tab [(4, vb r1)], stab [], 0⟩ ?_ ?_
 ·
  iterate 2 refine q1 _ ?_
  refine stepC (r := .bool r1) (ArgsOk.dt (ArgsOk.dt (ArgsOk.dt ArgsOk.nil'))) (c_slices_EqualFunc_api_Row ⟨87, [], rfl, fun _ _ _ h => c_table_Same_1 h⟩ hr1) ?_
  refine q1 _ ?_
  exact nR []
 have hh := Option.some.inj h
 subst hh
 refine NWp.ret ?_
 show FQ _ _ _ _
 exact FQ.mk1 (.inr rfl) (res_t (v := vb r1) rfl rfl) (RV.d trivial)

theorem c_merge_Of_1 {a0 : (List api_Row)} {a1 : (List api_Row)} {r : Bool} (h : merge_Of_1 a0 a1 = some r) : PCall Try.prog 66 [eL (some 2) eapi_Row a0, .cptr none (eL (some 2) eapi_Row a1) 0] (.bool r) := by
 refine PCall.introN ok66 (show 2 ≤ 7 by decide) ?_
 refine NWp.norm (s0 := ⟨tab [(0, vl1 a0), (1, .d (.cptr none (eL (some 2) eapi_Row a1) 0))], stab [], 0⟩) (nr []) ?_
 refine NWp.opsJ ⟨tab [(0, vl1 a0), (1, .d (.cptr none (eL (some 2) eapi_Row a1) 0))], stab [], 0⟩ ?_ ?_
 ·
  refine q1 _ ?_
  exact nR []
 obtain ⟨r1, hr1, h⟩ := bindE h
 refine NWp.opsJ ⟨tab [(3, vb r1)], stab [], 0⟩ ?_ ?_
 ·
  iterate 2 refine q1 _ ?_
  refine stepC (r := .bool r1) (ArgsOk.dt (ArgsOk.dt ArgsOk.nil')) (c_table_Same hr1) ?_
  refine q1 _ ?_
  exact nR []
 have hh := Option.some.inj h
 subst hh
 refine NWp.ret ?_
 show FQ _ _ _ _
 exact FQ.mk1 (.inr rfl) (res_t (v := vb r1) rfl rfl) (RV.d trivial)

theorem c_slices_IndexFunc_Lapi_Row {a0 : (List (List api_Row))} {a1 : (List api_Row) → Option Bool} {g_a1 : D} (hf_a1 : Fn1 Try.prog g_a1 (eL (some 2) eapi_Row) D.bool a1) {r : Int} (h : slices_IndexFunc_Lapi_Row a0 a1 = some r) : PCall Try.prog 65 [eL none (eL (some 2) eapi_Row) a0, g_a1] (.int .i64 r) := by
 obtain ⟨fn_a1, cap_a1, rfl, hc_a1⟩ := hf_a1
 refine PCall.introN ok65 (show 2 ≤ 19 by decide) ?_
 refine NWp.norm (s0 := ⟨tab [(0, .d (eL none (eL (some 2) eapi_Row) a0)), (1, .d (.func fn_a1 cap_a1))], stab [], 0⟩) (nr []) ?_
 refine NWp.opsJ ⟨tab [(0, .d (eL none (eL (some 2) eapi_Row) a0)), (1, .d (.func fn_a1 cap_a1))], stab [], 0⟩ ?_ ?_
 ·
  refine q1 _ ?_
  exact nR []
 refine NWp.seq ?_
 refine NWp.opsJ ⟨tab [(0, .d (eL none (eL (some 2) eapi_Row) a0)), (1, .d (.func fn_a1 cap_a1)), (7, vi (a0.length : Int)), (8, vi 0)], stab [], 0⟩ ?_ ?_
 ·
  refine q1 _ ?_
  refine step (v := vi (a0.length : Int)) (st_len (xs := a0) (e := (eL (some 2) eapi_Row)) rfl) ?_
  refine q1 _ ?_
  exact nR []
 obtain ⟨q10, hl, h⟩ := bindE h
 refine NWp.block ?_
 refine loop_forR (cntU (a0.length : Int)) (fun (i1 : Int) (qq : Unit) => ⟨tab [(0, .d (eL none (eL (some 2) eapi_Row) a0)), (1, .d (.func fn_a1 cap_a1)), (7, vi (a0.length : Int)), (8, vi i1)], stab [], 0⟩) 0 (fun (qq : Unit) => ⟨tab [], stab [], 0⟩) Low low_step (r := r) hl (by unfold Low; omega) ?_ ?_ ?_ ?_
 ·
  rintro i1 ⟨⟩ xr6 hinv4 hgo3 h
  show NWp _ _ _ _ _ ⟨tab [(0, .d (eL none (eL (some 2) eapi_Row) a0)), (1, .d (.func fn_a1 cap_a1)), (7, vi (a0.length : Int)), (8, vi i1)], stab [], 0⟩
  have hc5 : decide (i1 < (a0.length : Int)) = true := decide_eq_true hgo3
  refine NWp.opsJ ⟨tab [(0, .d (eL none (eL (some 2) eapi_Row) a0)), (1, .d (.func fn_a1 cap_a1)), (7, vi (a0.length : Int)), (8, vi i1), (9, vb (decide (i1 < (a0.length : Int))))], stab [], 0⟩ ?_ ?_
  ·
   refine q1 _ ?_
   exact nR []
  refine NWp.rng 7 rfl fun hB2 => ?_
  refine NWp.seq ?_
  refine NWp.condT (t := decide (i1 < (a0.length : Int))) rfl hc5 ?_
  refine NWp.skip ?_
  refine NWp.seq ?_
  refine NWp.block ?_
  refine NWp.opsJ ⟨tab [(0, .d (eL none (eL (some 2) eapi_Row) a0)), (1, .d (.func fn_a1 cap_a1)), (5, vi i1), (7, vi (a0.length : Int)), (8, vi i1)], stab [], 0⟩ ?_ ?_
  ·
   iterate 2 refine q1 _ ?_
   exact nR []
  obtain ⟨x7, hx7, h⟩ := bindE h
  obtain ⟨x8, hx8, h⟩ := bindE h
  refine NWp.opsJ ⟨tab [(0, .d (eL none (eL (some 2) eapi_Row) a0)), (1, .d (.func fn_a1 cap_a1)), (5, vi i1), (7, vi (a0.length : Int)), (8, vi i1), (16, vb x8)], stab [], 0⟩ ?_ ?_
  ·
   iterate 3 refine q1 _ ?_
   refine step (v := .d (.cptr none (eL (some 2) eapi_Row x7) 0)) (st_iaddr (xs := a0) (e := (eL (some 2) eapi_Row)) hx7 rfl rfl) ?_
   refine q1 _ ?_
   refine stepV' (r := .bool x8) rfl (ArgsOk.dt ArgsOk.nil') (hc_a1 _ _ hx8) ?_
   exact nR []
  by_cases hc9 : x8 = true
  ·
   replace h := iteT hc9 h
   refine NWp.condT (t := x8) rfl hc9 ?_
   refine NWp.opsJ ⟨tab [(4, vi i1)], stab [], 0⟩ ?_ ?_
   ·
    iterate 2 refine q1 _ ?_
    exact nR []
   obtain ⟨r10, kr10, hr⟩ := mapE (o := some i1) (g := Br.ret) h
   subst hr
   have h := kr10
   have hh := Option.some.inj h
   subst hh
   refine NWp.ret ?_
   refine And.intro (fun hn => nomatch hn) ?_
   intro hq
   have hq := hq.symm
   subst hq
   show FQ _ _ _ _
   exact FQ.mk1 (.inr rfl) (res_t (v := vi i1) rfl rfl) (RV.d trivial)
  ·
   replace h := iteF hc9 h
   refine NWp.condF (t := x8) rfl hc9 ?_
   refine NWp.skip ?_
   have hh := Option.some.inj h
   subst hh
   refine NWp.opsE ⟨tab [(0, .d (eL none (eL (some 2) eapi_Row) a0)), (1, .d (.func fn_a1 cap_a1)), (7, vi (a0.length : Int)), (8, vi (i1 + 1))], stab [], 0⟩ ?_ ?_
   ·
    refine step (v := vi (i1 + 1)) (st_inc (inc_ok hinv4 hgo3 hB2) rfl rfl) ?_
    refine q1 _ ?_
    exact nR []
   exact And.intro rfl rfl
 ·
  rintro i1 ⟨⟩ hinv4 hgo3
  show NWp _ _ _ _ _ ⟨tab [(0, .d (eL none (eL (some 2) eapi_Row) a0)), (1, .d (.func fn_a1 cap_a1)), (7, vi (a0.length : Int)), (8, vi i1)], stab [], 0⟩
  have hc5 : ¬ (decide (i1 < (a0.length : Int)) = true) := fun hq => hgo3 (of_decide_eq_true hq)
  refine NWp.opsJ ⟨tab [(0, .d (eL none (eL (some 2) eapi_Row) a0)), (1, .d (.func fn_a1 cap_a1)), (7, vi (a0.length : Int)), (8, vi i1), (9, vb (decide (i1 < (a0.length : Int))))], stab [], 0⟩ ?_ ?_
  ·
   refine q1 _ ?_
   exact nR []
  refine NWp.seq ?_
  refine NWp.condF (t := decide (i1 < (a0.length : Int))) rfl hc5 ?_
  refine NWp.norm (s0 := ⟨tab [], stab [], 0⟩) (nr []) ?_
  refine NWp.exit ?_
  exact And.intro rfl rfl
 ·
  intro r' hq
  subst hq
  exact Option.some.inj h
 rintro ⟨⟩ rfl
 refine NWp.opsJ ⟨tab [(4, vi (-1))], stab [], 0⟩ ?_ ?_
 ·
  refine q1 _ ?_
  exact nR []
 have hh := Option.some.inj h
 subst hh
 refine NWp.ret ?_
 show FQ _ _ _ _
 exact FQ.mk1 (.inr rfl) (res_t (v := vi (-1)) rfl rfl) (RV.d trivial)

theorem c_merge_Rows {a0 : api_Table} {r : Int} (h : merge_Rows a0 = some r) : PCall Try.prog 39 [eapi_Table a0] (.int .i64 r) := by
 refine PCall.introN ok39 (show 1 ≤ 19 by decide) ?_
 refine NWp.norm (s0 := ⟨tab [(0, vs2 a0)], stab [], 0⟩) (nr []) ?_
 refine NWp.opsJ ⟨tab [(1, vp0 a0)], stab [], 0⟩ ?_ ?_
 ·
  iterate 2 refine q1 _ ?_
  exact nR []
 refine NWp.opsJ ⟨tab [(1, vp0 a0), (3, vi 0)], stab [], 0⟩ ?_ ?_
 ·
  refine q1 _ ?_
  exact nR []
 refine NWp.seq ?_
 refine NWp.opsJ ⟨tab [(3, vi 0), (7, .d (eL none (eL (some 2) eapi_Row) a0.Lists)), (8, vi (a0.Lists.length : Int)), (9, vi 0)], stab [], 0⟩ ?_ ?_
 ·
  iterate 2 refine q1 _ ?_
  refine step (v := vi (a0.Lists.length : Int)) (st_len (xs := a0.Lists) (e := (eL (some 2) eapi_Row)) rfl) ?_
  refine q1 _ ?_
  exact nR []
 obtain ⟨z9, hl, h⟩ := bindE h
 refine NWp.block ?_
 refine loop_forO (cntU (a0.Lists.length : Int)) (fun (i2 : Int) (qq : Int) => ⟨tab [(3, vi qq), (7, .d (eL none (eL (some 2) eapi_Row) a0.Lists)), (8, vi (a0.Lists.length : Int)), (9, vi i2)], stab [], 0⟩) 0 (fun (qq : Int) => ⟨tab [(3, vi qq)], stab [], 0⟩) Low low_step hl (by unfold Low; omega) ?_ ?_ ?_
 ·
  rintro i2 i1 xr7 hinv5 hgo4 h
  show NWp _ _ _ _ _ ⟨tab [(3, vi i1), (7, .d (eL none (eL (some 2) eapi_Row) a0.Lists)), (8, vi (a0.Lists.length : Int)), (9, vi i2)], stab [], 0⟩
  have hc6 : decide (i2 < (a0.Lists.length : Int)) = true := decide_eq_true hgo4
  refine NWp.opsJ ⟨tab [(3, vi i1), (7, .d (eL none (eL (some 2) eapi_Row) a0.Lists)), (8, vi (a0.Lists.length : Int)), (9, vi i2), (10, vb (decide (i2 < (a0.Lists.length : Int))))], stab [], 0⟩ ?_ ?_
  ·
   refine q1 _ ?_
   exact nR []
  refine NWp.rng 8 rfl fun hB3 => ?_
  refine NWp.seq ?_
  refine NWp.condT (t := decide (i2 < (a0.Lists.length : Int))) rfl hc6 ?_
  refine NWp.skip ?_
  refine NWp.seq ?_
  refine NWp.block ?_
  obtain ⟨x8, hx8, h⟩ := bindE h
  refine NWp.opsJ ⟨tab [(3, vi i1), (5, vl1 x8), (7, .d (eL none (eL (some 2) eapi_Row) a0.Lists)), (8, vi (a0.Lists.length : Int)), (9, vi i2)], stab [], 0⟩ ?_ ?_
  ·
   refine step (v := .d (.cptr none (eL (some 2) eapi_Row x8) 0)) (st_iaddr (xs := a0.Lists) (e := (eL (some 2) eapi_Row)) hx8 rfl rfl) ?_
   iterate 2 refine q1 _ ?_
   exact nR []
  refine NWp.opsE ⟨tab [(3, vi (IntKind.i64.wrap (i1 + (x8.length : Int)))), (7, .d (eL none (eL (some 2) eapi_Row) a0.Lists)), (8, vi (a0.Lists.length : Int)), (9, vi i2)], stab [], 0⟩ ?_ ?_
  ·
   iterate 2 refine q1 _ ?_
   refine step (v := vi (x8.length : Int)) (st_len (xs := x8) (e := eapi_Row) rfl) ?_
   iterate 2 refine q1 _ ?_
   exact nR []
  have hh := Option.some.inj h
  subst hh
  refine NWp.opsE ⟨tab [(3, vi (IntKind.i64.wrap (i1 + (x8.length : Int)))), (7, .d (eL none (eL (some 2) eapi_Row) a0.Lists)), (8, vi (a0.Lists.length : Int)), (9, vi (i2 + 1))], stab [], 0⟩ ?_ ?_
  ·
   refine step (v := vi (i2 + 1)) (st_inc (inc_ok hinv5 hgo4 hB3) rfl rfl) ?_
   refine q1 _ ?_
   exact nR []
  exact And.intro rfl rfl
 ·
  rintro i2 i1 hinv5 hgo4
  show NWp _ _ _ _ _ ⟨tab [(3, vi i1), (7, .d (eL none (eL (some 2) eapi_Row) a0.Lists)), (8, vi (a0.Lists.length : Int)), (9, vi i2)], stab [], 0⟩
  have hc6 : ¬ (decide (i2 < (a0.Lists.length : Int)) = true) := fun hq => hgo4 (of_decide_eq_true hq)
  refine NWp.opsJ ⟨tab [(3, vi i1), (7, .d (eL none (eL (some 2) eapi_Row) a0.Lists)), (8, vi (a0.Lists.length : Int)), (9, vi i2), (10, vb (decide (i2 < (a0.Lists.length : Int))))], stab [], 0⟩ ?_ ?_
  ·
   refine q1 _ ?_
   exact nR []
  refine NWp.seq ?_
  refine NWp.condF (t := decide (i2 < (a0.Lists.length : Int))) rfl hc6 ?_
  refine NWp.norm (s0 := ⟨tab [(3, vi i1)], stab [], 0⟩) (nr []) ?_
  refine NWp.exit ?_
  exact And.intro rfl rfl
 refine NWp.opsJ ⟨tab [(2, vi z9)], stab [], 0⟩ ?_ ?_
 ·
  iterate 2 refine q1 _ ?_
  exact nR []
 have hh := Option.some.inj h
 subst hh
 refine NWp.ret ?_
 show FQ _ _ _ _
 exact FQ.mk1 (.inr rfl) (res_t (v := vi z9) rfl rfl) (RV.d trivial)

theorem c_slices_ContainsFunc_Lapi_Row {a0 : (List (List api_Row))} {a1 : (List api_Row) → Option Bool} {g_a1 : D} (hf_a1 : Fn1 Try.prog g_a1 (eL (some 2) eapi_Row) D.bool a1) {r : Bool} (h : slices_ContainsFunc_Lapi_Row a0 a1 = some r) : PCall Try.prog 68 [eL none (eL (some 2) eapi_Row) a0, g_a1] (.bool r) := by
 obtain ⟨fn_a1, cap_a1, rfl, hc_a1⟩ := hf_a1
 refine PCall.introN ok68 (show 2 ≤ 9 by decide) ?_
 refine NWp.norm (s0 := ⟨tab [(0, .d (eL none (eL (some 2) eapi_Row) a0)), (1, .d (.func fn_a1 cap_a1))], stab [], 0⟩) (nr []) ?_
 refine NWp.opsJ ⟨tab [(0, .d (eL none (eL (some 2) eapi_Row) a0)), (1, .d (.func fn_a1 cap_a1))], stab [], 0⟩ ?_ ?_
 ·
  refine q1 _ ?_
  exact nR []
 obtain ⟨r1, hr1, h⟩ := bindE h
 refine NWp.opsJ ⟨tab [(4, vb (decide (r1 ≥ 0)))], stab [], 0⟩ ?_ ?_
 ·
  iterate 2 refine q1 _ ?_
  refine stepC (r := .int .i64 r1) (ArgsOk.dt (ArgsOk.dt ArgsOk.nil')) (c_slices_IndexFunc_Lapi_Row ⟨_, _, rfl, hc_a1⟩ hr1) ?_
  iterate 2 refine q1 _ ?_
  exact nR []
 have hh := Option.some.inj h
 subst hh
 refine NWp.ret ?_
 show FQ _ _ _ _
 exact FQ.mk1 (.inr rfl) (res_t (v := vb (decide (r1 ≥ 0))) rfl rfl) (RV.d trivial)

theorem c_table_rising {a0 : (List api_Pair)} {r : Bool} (h : table_rising a0 = some r) : PCall Try.prog 89 [eL (some 2) eapi_Pair a0] (.bool r) := by
 refine PCall.introN ok89 (show 1 ≤ 36 by decide) ?_
 refine NWp.norm (s0 := ⟨tab [(0, vl0 a0)], stab [], 0⟩) (nr []) ?_
 refine NWp.opsJ ⟨tab [(0, vl0 a0)], stab [], 0⟩ ?_ ?_
 ·
  refine q1 _ ?_
  exact nR []
 refine NWp.seq ?_
 refine NWp.opsJ ⟨tab [(0, vl0 a0), (5, vl0 a0), (6, vi (a0.length : Int)), (7, vi 0)], stab [], 0⟩ ?_ ?_
 ·
  refine q1 _ ?_
  refine step (v := vi (a0.length : Int)) (st_len (xs := a0) (e := eapi_Pair) rfl) ?_
  refine q1 _ ?_
  exact nR []
 obtain ⟨q15, hl, h⟩ := bindE h
 refine NWp.block ?_
 refine loop_forR (cntU (a0.length : Int)) (fun (i1 : Int) (qq : Unit) => ⟨tab [(0, vl0 a0), (5, vl0 a0), (6, vi (a0.length : Int)), (7, vi i1)], stab [], 0⟩) 0 (fun (qq : Unit) => ⟨tab [], stab [], 0⟩) Low low_step (r := r) hl (by unfold Low; omega) ?_ ?_ ?_ ?_
 ·
  rintro i1 ⟨⟩ xr6 hinv4 hgo3 h
  show NWp _ _ _ _ _ ⟨tab [(0, vl0 a0), (5, vl0 a0), (6, vi (a0.length : Int)), (7, vi i1)], stab [], 0⟩
  have hc5 : decide (i1 < (a0.length : Int)) = true := decide_eq_true hgo3
  refine NWp.opsJ ⟨tab [(0, vl0 a0), (5, vl0 a0), (6, vi (a0.length : Int)), (7, vi i1), (8, vb (decide (i1 < (a0.length : Int))))], stab [], 0⟩ ?_ ?_
  ·
   refine q1 _ ?_
   exact nR []
  refine NWp.rng 6 rfl fun hB2 => ?_
  refine NWp.seq ?_
  refine NWp.condT (t := decide (i1 < (a0.length : Int))) rfl hc5 ?_
  refine NWp.skip ?_
  refine NWp.seq ?_
  refine NWp.block ?_
  obtain ⟨x7, hx7, h⟩ := bindE h
  refine NWp.opsJ ⟨tab [(0, vl0 a0), (3, vi i1), (4, .ptr 0 0 0), (5, vl0 a0), (6, vi (a0.length : Int)), (7, vi i1)], stab [(0, .var [vi x7.F, vh x7.N])], 1⟩ ?_ ?_
  ·
   refine q1 _ ?_
   refine step (v := vp1 x7) (st_iaddr (xs := a0) (e := eapi_Pair) hx7 rfl rfl) ?_
   refine q1 _ ?_
   refine step (v := .ptr 0 0 0) (σ' := (upd (stab []) 0 (some (.var [vi 0, vh 0])))) (n' := 1) rfl ?_
   refine q1 _ ?_
   refine step (v := V.undef) (σ' := (upd (upd (stab []) 0 (some (.var [vi 0, vh 0]))) 0 (some (.var [vi x7.F, vh x7.N])))) (n' := 1) rfl ?_
   exact nR [0]
  obtain ⟨y12, hv, h⟩ := bindE h
  refine NWp.opsJ ⟨tab [(0, vl0 a0), (5, vl0 a0), (6, vi (a0.length : Int)), (7, vi i1), (34, vb y12)], stab [], 0⟩ ?_ ?_
  ·
   iterate 4 refine q1 _ ?_
   by_cases hg8 : decide (x7.F < 0) = true
   ·
    replace hv := iteT hg8 hv
    iterate 3 refine qX (decide (x7.F < 0)) (by rw [hg8]; decide) ?_
    refine step (v := vb true) (st_pickT (b := decide (x7.F < 0)) rfl hg8 rfl) ?_
    refine q1 _ ?_
    iterate 3 refine qX true (by decide) ?_
    refine stepXX rfl ?_
    refine stepXX rfl ?_
    refine stepXX rfl ?_
    refine stepXX rfl ?_
    refine stepXX rfl ?_
    refine stepXX rfl ?_
    refine stepXX rfl ?_
    refine stepXX rfl ?_
    refine stepXX rfl ?_
    refine qX true (by decide) ?_
    refine step (v := vb true) (st_pickT (b := true) rfl rfl rfl) ?_
    have hh := Option.some.inj hv
    subst hh
    exact nR []
   ·
    replace hv := iteF hg8 hv
    refine qG (decide (x7.F < 0)) (Bool.eq_false_iff.2 hg8) ?_
    refine q1 _ ?_
    refine qG (decide (x7.F < 0)) (Bool.eq_false_iff.2 hg8) ?_
    refine q1 _ ?_
    refine qG (decide (x7.F < 0)) (Bool.eq_false_iff.2 hg8) ?_
    refine q1 _ ?_
    refine step (v := vb (decide (x7.F ≥ 8))) (st_pickF (b := decide (x7.F < 0)) rfl hg8 rfl) ?_
    refine q1 _ ?_
    by_cases hg9 : decide (x7.F ≥ 8) = true
    ·
     replace hv := iteT hg9 hv
     iterate 3 refine qX (decide (x7.F ≥ 8)) (by rw [hg9]; decide) ?_
     refine stepXX rfl ?_
     refine stepXX rfl ?_
     refine stepXX rfl ?_
     refine stepXX rfl ?_
     refine stepXX rfl ?_
     refine stepXX rfl ?_
     refine stepXX rfl ?_
     refine stepXX rfl ?_
     refine stepXX rfl ?_
     refine qX (decide (x7.F ≥ 8)) (by rw [hg9]; decide) ?_
     refine step (v := vb true) (st_pickT (b := decide (x7.F ≥ 8)) rfl hg9 rfl) ?_
     have hh := Option.some.inj hv
     subst hh
     exact nR []
    ·
     replace hv := iteF hg9 hv
     refine qG (decide (x7.F ≥ 8)) (Bool.eq_false_iff.2 hg9) ?_
     refine q1 _ ?_
     refine qG (decide (x7.F ≥ 8)) (Bool.eq_false_iff.2 hg9) ?_
     refine q1 _ ?_
     refine qG (decide (x7.F ≥ 8)) (Bool.eq_false_iff.2 hg9) ?_
     refine q1 _ ?_
     by_cases hg10 : decide (i1 > 0) = true
     ·
      replace hv := iteT hg10 hv
      obtain ⟨x11, hx11, hv⟩ := bindE hv
      refine qG _ hg10 ?_
      refine q1 _ ?_
      refine qG _ hg10 ?_
      refine q1 _ ?_
      refine qG _ hg10 ?_
      refine q1 _ ?_
      refine qG _ hg10 ?_
      refine step (v := vp1 x11) (st_iaddr (xs := a0) (e := eapi_Pair) hx11 rfl rfl) ?_
      refine qG _ hg10 ?_
      refine q1 _ ?_
      refine qG _ hg10 ?_
      refine q1 _ ?_
      refine qG _ hg10 ?_
      refine q1 _ ?_
      refine qG _ hg10 ?_
      refine q1 _ ?_
      refine qG _ hg10 ?_
      refine q1 _ ?_
      refine qG (decide (x7.F ≥ 8)) (Bool.eq_false_iff.2 hg9) ?_
      refine step (v := vb (decide (x11.F ≥ x7.F))) (st_pickT (b := decide (i1 > 0)) rfl hg10 rfl) ?_
      refine step (v := vb (decide (x11.F ≥ x7.F))) (st_pickF (b := decide (x7.F ≥ 8)) rfl hg9 rfl) ?_
      have hh := Option.some.inj hv
      subst hh
      exact nR []
     ·
      replace hv := iteF hg10 hv
      iterate 9 refine qX _ hg10 ?_
      refine qG (decide (x7.F ≥ 8)) (Bool.eq_false_iff.2 hg9) ?_
      refine step (v := vb false) (st_pickF (b := decide (i1 > 0)) rfl hg10 rfl) ?_
      refine step (v := vb false) (st_pickF (b := decide (x7.F ≥ 8)) rfl hg9 rfl) ?_
      have hh := Option.some.inj hv
      subst hh
      exact nR []
  by_cases hc14 : y12 = true
  ·
   replace h := iteT hc14 h
   refine NWp.condT (t := y12) rfl hc14 ?_
   refine NWp.opsJ ⟨tab [(2, vb false)], stab [], 0⟩ ?_ ?_
   ·
    refine q1 _ ?_
    exact nR []
   obtain ⟨r15, kr15, hr⟩ := mapE (o := some false) (g := Br.ret) h
   subst hr
   have h := kr15
   have hh := Option.some.inj h
   subst hh
   refine NWp.ret ?_
   refine And.intro (fun hn => nomatch hn) ?_
   intro hq
   have hq := hq.symm
   subst hq
   show FQ _ _ _ _
   exact FQ.mk1 (.inr rfl) (res_t (v := vb false) rfl rfl) (RV.d trivial)
  ·
   replace h := iteF hc14 h
   refine NWp.condF (t := y12) rfl hc14 ?_
   refine NWp.skip ?_
   have hh := Option.some.inj h
   subst hh
   refine NWp.opsE ⟨tab [(0, vl0 a0), (5, vl0 a0), (6, vi (a0.length : Int)), (7, vi (i1 + 1))], stab [], 0⟩ ?_ ?_
   ·
    refine step (v := vi (i1 + 1)) (st_inc (inc_ok hinv4 hgo3 hB2) rfl rfl) ?_
    refine q1 _ ?_
    exact nR []
   exact And.intro rfl rfl
 ·
  rintro i1 ⟨⟩ hinv4 hgo3
  show NWp _ _ _ _ _ ⟨tab [(0, vl0 a0), (5, vl0 a0), (6, vi (a0.length : Int)), (7, vi i1)], stab [], 0⟩
  have hc5 : ¬ (decide (i1 < (a0.length : Int)) = true) := fun hq => hgo3 (of_decide_eq_true hq)
  refine NWp.opsJ ⟨tab [(0, vl0 a0), (5, vl0 a0), (6, vi (a0.length : Int)), (7, vi i1), (8, vb (decide (i1 < (a0.length : Int))))], stab [], 0⟩ ?_ ?_
  ·
   refine q1 _ ?_
   exact nR []
  refine NWp.seq ?_
  refine NWp.condF (t := decide (i1 < (a0.length : Int))) rfl hc5 ?_
  refine NWp.norm (s0 := ⟨tab [], stab [], 0⟩) (nr []) ?_
  refine NWp.exit ?_
  exact And.intro rfl rfl
 ·
  intro r' hq
  subst hq
  exact Option.some.inj h
 rintro ⟨⟩ rfl
 refine NWp.opsJ ⟨tab [(2, vb true)], stab [], 0⟩ ?_ ?_
 ·
  refine q1 _ ?_
  exact nR []
 have hh := Option.some.inj h
 subst hh
 refine NWp.ret ?_
 show FQ _ _ _ _
 exact FQ.mk1 (.inr rfl) (res_t (v := vb true) rfl rfl) (RV.d trivial)

theorem c_slices_IndexFunc_api_Act {a0 : (List (List api_Pair))} {a1 : (List api_Pair) → Option Bool} {g_a1 : D} (hf_a1 : Fn1 Try.prog g_a1 (eL (some 2) eapi_Pair) D.bool a1) {r : Int} (h : slices_IndexFunc_api_Act a0 a1 = some r) : PCall Try.prog 101 [eL none (eL (some 2) eapi_Pair) a0, g_a1] (.int .i64 r) := by
 obtain ⟨fn_a1, cap_a1, rfl, hc_a1⟩ := hf_a1
 refine PCall.introN ok101 (show 2 ≤ 19 by decide) ?_
 refine NWp.norm (s0 := ⟨tab [(0, .d (eL none (eL (some 2) eapi_Pair) a0)), (1, .d (.func fn_a1 cap_a1))], stab [], 0⟩) (nr []) ?_
 refine NWp.opsJ ⟨tab [(0, .d (eL none (eL (some 2) eapi_Pair) a0)), (1, .d (.func fn_a1 cap_a1))], stab [], 0⟩ ?_ ?_
 ·
  refine q1 _ ?_
  exact nR []
 refine NWp.seq ?_
 refine NWp.opsJ ⟨tab [(0, .d (eL none (eL (some 2) eapi_Pair) a0)), (1, .d (.func fn_a1 cap_a1)), (7, vi (a0.length : Int)), (8, vi 0)], stab [], 0⟩ ?_ ?_
 ·
  refine q1 _ ?_
  refine step (v := vi (a0.length : Int)) (st_len (xs := a0) (e := (eL (some 2) eapi_Pair)) rfl) ?_
  refine q1 _ ?_
  exact nR []
 obtain ⟨q10, hl, h⟩ := bindE h
 refine NWp.block ?_
 refine loop_forR (cntU (a0.length : Int)) (fun (i1 : Int) (qq : Unit) => ⟨tab [(0, .d (eL none (eL (some 2) eapi_Pair) a0)), (1, .d (.func fn_a1 cap_a1)), (7, vi (a0.length : Int)), (8, vi i1)], stab [], 0⟩) 0 (fun (qq : Unit) => ⟨tab [], stab [], 0⟩) Low low_step (r := r) hl (by unfold Low; omega) ?_ ?_ ?_ ?_
 ·
  rintro i1 ⟨⟩ xr6 hinv4 hgo3 h
  show NWp _ _ _ _ _ ⟨tab [(0, .d (eL none (eL (some 2) eapi_Pair) a0)), (1, .d (.func fn_a1 cap_a1)), (7, vi (a0.length : Int)), (8, vi i1)], stab [], 0⟩
  have hc5 : decide (i1 < (a0.length : Int)) = true := decide_eq_true hgo3
  refine NWp.opsJ ⟨tab [(0, .d (eL none (eL (some 2) eapi_Pair) a0)), (1, .d (.func fn_a1 cap_a1)), (7, vi (a0.length : Int)), (8, vi i1), (9, vb (decide (i1 < (a0.length : Int))))], stab [], 0⟩ ?_ ?_
  ·
   refine q1 _ ?_
   exact nR []
  refine NWp.rng 7 rfl fun hB2 => ?_
  refine NWp.seq ?_
  refine NWp.condT (t := decide (i1 < (a0.length : Int))) rfl hc5 ?_
  refine NWp.skip ?_
  refine NWp.seq ?_
  refine NWp.block ?_
  refine NWp.opsJ ⟨tab [(0, .d (eL none (eL (some 2) eapi_Pair) a0)), (1, .d (.func fn_a1 cap_a1)), (5, vi i1), (7, vi (a0.length : Int)), (8, vi i1)], stab [], 0⟩ ?_ ?_
  ·
   iterate 2 refine q1 _ ?_
   exact nR []
  obtain ⟨x7, hx7, h⟩ := bindE h
  obtain ⟨x8, hx8, h⟩ := bindE h
  refine NWp.opsJ ⟨tab [(0, .d (eL none (eL (some 2) eapi_Pair) a0)), (1, .d (.func fn_a1 cap_a1)), (5, vi i1), (7, vi (a0.length : Int)), (8, vi i1), (16, vb x8)], stab [], 0⟩ ?_ ?_
  ·
   iterate 3 refine q1 _ ?_
   refine step (v := .d (.cptr none (eL (some 2) eapi_Pair x7) 0)) (st_iaddr (xs := a0) (e := (eL (some 2) eapi_Pair)) hx7 rfl rfl) ?_
   refine q1 _ ?_
   refine stepV' (r := .bool x8) rfl (ArgsOk.dt ArgsOk.nil') (hc_a1 _ _ hx8) ?_
   exact nR []
  by_cases hc9 : x8 = true
  ·
   replace h := iteT hc9 h
   refine NWp.condT (t := x8) rfl hc9 ?_
   refine NWp.opsJ ⟨tab [(4, vi i1)], stab [], 0⟩ ?_ ?_
   ·
    iterate 2 refine q1 _ ?_
    exact nR []
   obtain ⟨r10, kr10, hr⟩ := mapE (o := some i1) (g := Br.ret) h
   subst hr
   have h := kr10
   have hh := Option.some.inj h
   subst hh
   refine NWp.ret ?_
   refine And.intro (fun hn => nomatch hn) ?_
   intro hq
   have hq := hq.symm
   subst hq
   show FQ _ _ _ _
   exact FQ.mk1 (.inr rfl) (res_t (v := vi i1) rfl rfl) (RV.d trivial)
  ·
   replace h := iteF hc9 h
   refine NWp.condF (t := x8) rfl hc9 ?_
   refine NWp.skip ?_
   have hh := Option.some.inj h
   subst hh
   refine NWp.opsE ⟨tab [(0, .d (eL none (eL (some 2) eapi_Pair) a0)), (1, .d (.func fn_a1 cap_a1)), (7, vi (a0.length : Int)), (8, vi (i1 + 1))], stab [], 0⟩ ?_ ?_
   ·
    refine step (v := vi (i1 + 1)) (st_inc (inc_ok hinv4 hgo3 hB2) rfl rfl) ?_
    refine q1 _ ?_
    exact nR []
   exact And.intro rfl rfl
 ·
  rintro i1 ⟨⟩ hinv4 hgo3
  show NWp _ _ _ _ _ ⟨tab [(0, .d (eL none (eL (some 2) eapi_Pair) a0)), (1, .d (.func fn_a1 cap_a1)), (7, vi (a0.length : Int)), (8, vi i1)], stab [], 0⟩
  have hc5 : ¬ (decide (i1 < (a0.length : Int)) = true) := fun hq => hgo3 (of_decide_eq_true hq)
  refine NWp.opsJ ⟨tab [(0, .d (eL none (eL (some 2) eapi_Pair) a0)), (1, .d (.func fn_a1 cap_a1)), (7, vi (a0.length : Int)), (8, vi i1), (9, vb (decide (i1 < (a0.length : Int))))], stab [], 0⟩ ?_ ?_
  ·
   refine q1 _ ?_
   exact nR []
  refine NWp.seq ?_
  refine NWp.condF (t := decide (i1 < (a0.length : Int))) rfl hc5 ?_
  refine NWp.norm (s0 := ⟨tab [], stab [], 0⟩) (nr []) ?_
  refine NWp.exit ?_
  exact And.intro rfl rfl
 ·
  intro r' hq
  subst hq
  exact Option.some.inj h
 rintro ⟨⟩ rfl
 refine NWp.opsJ ⟨tab [(4, vi (-1))], stab [], 0⟩ ?_ ?_
 ·
  refine q1 _ ?_
  exact nR []
 have hh := Option.some.inj h
 subst hh
 refine NWp.ret ?_
 show FQ _ _ _ _
 exact FQ.mk1 (.inr rfl) (res_t (v := vi (-1)) rfl rfl) (RV.d trivial)

theorem c_slices_ContainsFunc_api_Act {a0 : (List (List api_Pair))} {a1 : (List api_Pair) → Option Bool} {g_a1 : D} (hf_a1 : Fn1 Try.prog g_a1 (eL (some 2) eapi_Pair) D.bool a1) {r : Bool} (h : slices_ContainsFunc_api_Act a0 a1 = some r) : PCall Try.prog 90 [eL none (eL (some 2) eapi_Pair) a0, g_a1] (.bool r) := by
 obtain ⟨fn_a1, cap_a1, rfl, hc_a1⟩ := hf_a1
 refine PCall.introN ok90 (show 2 ≤ 9 by decide) ?_
 refine NWp.norm (s0 := ⟨tab [(0, .d (eL none (eL (some 2) eapi_Pair) a0)), (1, .d (.func fn_a1 cap_a1))], stab [], 0⟩) (nr []) ?_
 refine NWp.opsJ ⟨tab [(0, .d (eL none (eL (some 2) eapi_Pair) a0)), (1, .d (.func fn_a1 cap_a1))], stab [], 0⟩ ?_ ?_
 ·
  refine q1 _ ?_
  exact nR []
 obtain ⟨r1, hr1, h⟩ := bindE h
 refine NWp.opsJ ⟨tab [(4, vb (decide (r1 ≥ 0)))], stab [], 0⟩ ?_ ?_
 ·
  iterate 2 refine q1 _ ?_
  refine stepC (r := .int .i64 r1) (ArgsOk.dt (ArgsOk.dt ArgsOk.nil')) (c_slices_IndexFunc_api_Act ⟨_, _, rfl, hc_a1⟩ hr1) ?_
  iterate 2 refine q1 _ ?_
  exact nR []
 have hh := Option.some.inj h
 subst hh
 refine NWp.ret ?_
 show FQ _ _ _ _
 exact FQ.mk1 (.inr rfl) (res_t (v := vb (decide (r1 ≥ 0))) rfl rfl) (RV.d trivial)

theorem c_table_Right_1_1 {a0 : (List api_Pair)} {r : Bool} (h : table_Right_1_1 a0 = some r) : PCall Try.prog 91 [eL (some 2) eapi_Pair a0] (.bool r) := by
 refine PCall.introN ok91 (show 1 ≤ 6 by decide) ?_
 refine NWp.norm (s0 := ⟨tab [(0, vl0 a0)], stab [], 0⟩) (nr []) ?_
 refine NWp.opsJ ⟨tab [(0, vl0 a0)], stab [], 0⟩ ?_ ?_
 ·
  refine q1 _ ?_
  exact nR []
 obtain ⟨r1, hr1, h⟩ := bindE h
 refine NWp.opsJ ⟨tab [(2, vb (!r1))], stab [], 0⟩ ?_ ?_
 ·
  refine q1 _ ?_
  refine stepC (r := .bool r1) (ArgsOk.dt ArgsOk.nil') (c_table_rising hr1) ?_
  iterate 2 refine q1 _ ?_
  exact nR []
 have hh := Option.some.inj h
 subst hh
 refine NWp.ret ?_
 show FQ _ _ _ _
 exact FQ.mk1 (.inr rfl) (res_t (v := vb (!r1)) rfl rfl) (RV.d trivial)

theorem c_table_Right_1 {a0 : api_Row} {r : Bool} (h : table_Right_1 a0 = some r) : PCall Try.prog 88 [eapi_Row a0] (.bool r) := by
 refine PCall.introN ok88 (show 1 ≤ 18 by decide) ?_
 refine NWp.norm (s0 := ⟨tab [(0, vs3 a0)], stab [], 0⟩) (nr []) ?_
 refine NWp.opsJ ⟨tab [(1, vp2 a0)], stab [], 0⟩ ?_ ?_
 ·
  iterate 2 refine q1 _ ?_
  exact nR []
 obtain ⟨r1, hr1, h⟩ := bindE h
 obtain ⟨y5, hv, h⟩ := bindE h
 refine NWp.opsJ ⟨tab [(2, vb y5)], stab [], 0⟩ ?_ ?_
 ·
  iterate 2 refine q1 _ ?_
  refine stepC (r := .bool r1) (ArgsOk.dt ArgsOk.nil') (c_table_rising hr1) ?_
  iterate 2 refine q1 _ ?_
  by_cases hg2 : (!r1) = true
  ·
   replace hv := iteT hg2 hv
   iterate 4 refine qX (!r1) (by rw [hg2]; decide) ?_
   refine step (v := vb true) (st_pickT (b := (!r1)) rfl hg2 rfl) ?_
   refine q1 _ ?_
   iterate 3 refine qX true (by decide) ?_
   refine step (v := vb true) (st_pickT (b := true) rfl rfl rfl) ?_
   refine q1 _ ?_
   have hh := Option.some.inj hv
   subst hh
   exact nR []
  ·
   replace hv := iteF hg2 hv
   refine qG (!r1) (Bool.eq_false_iff.2 hg2) ?_
   refine q1 _ ?_
   refine qG (!r1) (Bool.eq_false_iff.2 hg2) ?_
   refine q1 _ ?_
   refine qG (!r1) (Bool.eq_false_iff.2 hg2) ?_
   refine step (v := vi (a0.Acts.length : Int)) (st_len (xs := a0.Acts) (e := (eL (some 2) eapi_Pair)) rfl) ?_
   refine qG (!r1) (Bool.eq_false_iff.2 hg2) ?_
   refine q1 _ ?_
   refine step (v := vb (decide ((a0.Acts.length : Int) > 32))) (st_pickF (b := (!r1)) rfl hg2 rfl) ?_
   refine q1 _ ?_
   by_cases hg3 : decide ((a0.Acts.length : Int) > 32) = true
   ·
    replace hv := iteT hg3 hv
    iterate 3 refine qX (decide ((a0.Acts.length : Int) > 32)) (by rw [hg3]; decide) ?_
    refine step (v := vb true) (st_pickT (b := decide ((a0.Acts.length : Int) > 32)) rfl hg3 rfl) ?_
    refine q1 _ ?_
    have hh := Option.some.inj hv
    subst hh
    exact nR []
   ·
    replace hv := iteF hg3 hv
    obtain ⟨r4, hr4, hv⟩ := bindE hv
    refine qG (decide ((a0.Acts.length : Int) > 32)) (Bool.eq_false_iff.2 hg3) ?_
    refine q1 _ ?_
    refine qG (decide ((a0.Acts.length : Int) > 32)) (Bool.eq_false_iff.2 hg3) ?_
    refine q1 _ ?_
    refine qG (decide ((a0.Acts.length : Int) > 32)) (Bool.eq_false_iff.2 hg3) ?_
    refine stepC (r := .bool r4) (ArgsOk.dt (ArgsOk.dt ArgsOk.nil')) (c_slices_ContainsFunc_api_Act ⟨91, [], rfl, fun _ _ h => c_table_Right_1_1 h⟩ hr4) ?_
    refine step (v := vb r4) (st_pickF (b := decide ((a0.Acts.length : Int) > 32)) rfl hg3 rfl) ?_
    refine q1 _ ?_
    have hh := Option.some.inj hv
    subst hh
    exact nR []
 have hh := Option.some.inj h
 subst hh
 refine NWp.ret ?_
 show FQ _ _ _ _
 exact FQ.mk1 (.inr rfl) (res_t (v := vb y5) rfl rfl) (RV.d trivial)

theorem c_slices_IndexFunc_api_Row {a0 : (List api_Row)} {a1 : api_Row → Option Bool} {g_a1 : D} (hf_a1 : Fn1 Try.prog g_a1 eapi_Row D.bool a1) {r : Int} (h : slices_IndexFunc_api_Row a0 a1 = some r) : PCall Try.prog 93 [eL (some 2) eapi_Row a0, g_a1] (.int .i64 r) := by
 obtain ⟨fn_a1, cap_a1, rfl, hc_a1⟩ := hf_a1
 refine PCall.introN ok93 (show 2 ≤ 19 by decide) ?_
 refine NWp.norm (s0 := ⟨tab [(0, vl1 a0), (1, .d (.func fn_a1 cap_a1))], stab [], 0⟩) (nr []) ?_
 refine NWp.opsJ ⟨tab [(0, vl1 a0), (1, .d (.func fn_a1 cap_a1))], stab [], 0⟩ ?_ ?_
 ·
  refine q1 _ ?_
  exact nR []
 refine NWp.seq ?_
 refine NWp.opsJ ⟨tab [(0, vl1 a0), (1, .d (.func fn_a1 cap_a1)), (7, vi (a0.length : Int)), (8, vi 0)], stab [], 0⟩ ?_ ?_
 ·
  refine q1 _ ?_
  refine step (v := vi (a0.length : Int)) (st_len (xs := a0) (e := eapi_Row) rfl) ?_
  refine q1 _ ?_
  exact nR []
 obtain ⟨q10, hl, h⟩ := bindE h
 refine NWp.block ?_
 refine loop_forR (cntU (a0.length : Int)) (fun (i1 : Int) (qq : Unit) => ⟨tab [(0, vl1 a0), (1, .d (.func fn_a1 cap_a1)), (7, vi (a0.length : Int)), (8, vi i1)], stab [], 0⟩) 0 (fun (qq : Unit) => ⟨tab [], stab [], 0⟩) Low low_step (r := r) hl (by unfold Low; omega) ?_ ?_ ?_ ?_
 ·
  rintro i1 ⟨⟩ xr6 hinv4 hgo3 h
  show NWp _ _ _ _ _ ⟨tab [(0, vl1 a0), (1, .d (.func fn_a1 cap_a1)), (7, vi (a0.length : Int)), (8, vi i1)], stab [], 0⟩
  have hc5 : decide (i1 < (a0.length : Int)) = true := decide_eq_true hgo3
  refine NWp.opsJ ⟨tab [(0, vl1 a0), (1, .d (.func fn_a1 cap_a1)), (7, vi (a0.length : Int)), (8, vi i1), (9, vb (decide (i1 < (a0.length : Int))))], stab [], 0⟩ ?_ ?_
  ·
   refine q1 _ ?_
   exact nR []
  refine NWp.rng 7 rfl fun hB2 => ?_
  refine NWp.seq ?_
  refine NWp.condT (t := decide (i1 < (a0.length : Int))) rfl hc5 ?_
  refine NWp.skip ?_
  refine NWp.seq ?_
  refine NWp.block ?_
  refine NWp.opsJ ⟨tab [(0, vl1 a0), (1, .d (.func fn_a1 cap_a1)), (5, vi i1), (7, vi (a0.length : Int)), (8, vi i1)], stab [], 0⟩ ?_ ?_
  ·
   iterate 2 refine q1 _ ?_
   exact nR []
  obtain ⟨x7, hx7, h⟩ := bindE h
  obtain ⟨x8, hx8, h⟩ := bindE h
  refine NWp.opsJ ⟨tab [(0, vl1 a0), (1, .d (.func fn_a1 cap_a1)), (5, vi i1), (7, vi (a0.length : Int)), (8, vi i1), (16, vb x8)], stab [], 0⟩ ?_ ?_
  ·
   iterate 3 refine q1 _ ?_
   refine step (v := vp2 x7) (st_iaddr (xs := a0) (e := eapi_Row) hx7 rfl rfl) ?_
   refine q1 _ ?_
   refine stepV' (r := .bool x8) rfl (ArgsOk.dt ArgsOk.nil') (hc_a1 _ _ hx8) ?_
   exact nR []
  by_cases hc9 : x8 = true
  ·
   replace h := iteT hc9 h
   refine NWp.condT (t := x8) rfl hc9 ?_
   refine NWp.opsJ ⟨tab [(4, vi i1)], stab [], 0⟩ ?_ ?_
   ·
    iterate 2 refine q1 _ ?_
    exact nR []
   obtain ⟨r10, kr10, hr⟩ := mapE (o := some i1) (g := Br.ret) h
   subst hr
   have h := kr10
   have hh := Option.some.inj h
   subst hh
   refine NWp.ret ?_
   refine And.intro (fun hn => nomatch hn) ?_
   intro hq
   have hq := hq.symm
   subst hq
   show FQ _ _ _ _
   exact FQ.mk1 (.inr rfl) (res_t (v := vi i1) rfl rfl) (RV.d trivial)
  ·
   replace h := iteF hc9 h
   refine NWp.condF (t := x8) rfl hc9 ?_
   refine NWp.skip ?_
   have hh := Option.some.inj h
   subst hh
   refine NWp.opsE ⟨tab [(0, vl1 a0), (1, .d (.func fn_a1 cap_a1)), (7, vi (a0.length : Int)), (8, vi (i1 + 1))], stab [], 0⟩ ?_ ?_
   ·
    refine step (v := vi (i1 + 1)) (st_inc (inc_ok hinv4 hgo3 hB2) rfl rfl) ?_
    refine q1 _ ?_
    exact nR []
   exact And.intro rfl rfl
 ·
  rintro i1 ⟨⟩ hinv4 hgo3
  show NWp _ _ _ _ _ ⟨tab [(0, vl1 a0), (1, .d (.func fn_a1 cap_a1)), (7, vi (a0.length : Int)), (8, vi i1)], stab [], 0⟩
  have hc5 : ¬ (decide (i1 < (a0.length : Int)) = true) := fun hq => hgo3 (of_decide_eq_true hq)
  refine NWp.opsJ ⟨tab [(0, vl1 a0), (1, .d (.func fn_a1 cap_a1)), (7, vi (a0.length : Int)), (8, vi i1), (9, vb (decide (i1 < (a0.length : Int))))], stab [], 0⟩ ?_ ?_
  ·
   refine q1 _ ?_
   exact nR []
  refine NWp.seq ?_
  refine NWp.condF (t := decide (i1 < (a0.length : Int))) rfl hc5 ?_
  refine NWp.norm (s0 := ⟨tab [], stab [], 0⟩) (nr []) ?_
  refine NWp.exit ?_
  exact And.intro rfl rfl
 ·
  intro r' hq
  subst hq
  exact Option.some.inj h
 rintro ⟨⟩ rfl
 refine NWp.opsJ ⟨tab [(4, vi (-1))], stab [], 0⟩ ?_ ?_
 ·
  refine q1 _ ?_
  exact nR []
 have hh := Option.some.inj h
 subst hh
 refine NWp.ret ?_
 show FQ _ _ _ _
 exact FQ.mk1 (.inr rfl) (res_t (v := vi (-1)) rfl rfl) (RV.d trivial)

theorem c_slices_ContainsFunc_api_Row {a0 : (List api_Row)} {a1 : api_Row → Option Bool} {g_a1 : D} (hf_a1 : Fn1 Try.prog g_a1 eapi_Row D.bool a1) {r : Bool} (h : slices_ContainsFunc_api_Row a0 a1 = some r) : PCall Try.prog 92 [eL (some 2) eapi_Row a0, g_a1] (.bool r) := by
 obtain ⟨fn_a1, cap_a1, rfl, hc_a1⟩ := hf_a1
 refine PCall.introN ok92 (show 2 ≤ 9 by decide) ?_
 refine NWp.norm (s0 := ⟨tab [(0, vl1 a0), (1, .d (.func fn_a1 cap_a1))], stab [], 0⟩) (nr []) ?_
 refine NWp.opsJ ⟨tab [(0, vl1 a0), (1, .d (.func fn_a1 cap_a1))], stab [], 0⟩ ?_ ?_
 ·
  refine q1 _ ?_
  exact nR []
 obtain ⟨r1, hr1, h⟩ := bindE h
 refine NWp.opsJ ⟨tab [(4, vb (decide (r1 ≥ 0)))], stab [], 0⟩ ?_ ?_
 ·
  iterate 2 refine q1 _ ?_
  refine stepC (r := .int .i64 r1) (ArgsOk.dt (ArgsOk.dt ArgsOk.nil')) (c_slices_IndexFunc_api_Row ⟨_, _, rfl, hc_a1⟩ hr1) ?_
  iterate 2 refine q1 _ ?_
  exact nR []
 have hh := Option.some.inj h
 subst hh
 refine NWp.ret ?_
 show FQ _ _ _ _
 exact FQ.mk1 (.inr rfl) (res_t (v := vb (decide (r1 ≥ 0))) rfl rfl) (RV.d trivial)

theorem c_table_Right {a0 : (List api_Row)} {r : Bool} (h : table_Right a0 = some r) : PCall Try.prog 70 [eL (some 2) eapi_Row a0] (.bool r) := by
 refine PCall.introN ok70 (show 1 ≤ 13 by decide) ?_
 refine NWp.norm (s0 := ⟨tab [(0, vl1 a0)], stab [], 0⟩) (nr []) ?_
 refine NWp.opsJ ⟨tab [(0, vl1 a0)], stab [], 0⟩ ?_ ?_
 ·
  refine q1 _ ?_
  exact nR []
 refine NWp.opsJ ⟨tab [(0, vl1 a0), (3, .d (.func 88 []))], stab [], 0⟩ ?_ ?_
 ·
  refine q1 _ ?_
  exact nR []
 obtain ⟨y3, hv, h⟩ := bindE h
 refine NWp.opsJ ⟨tab [(2, vb y3)], stab [], 0⟩ ?_ ?_
 ·
  refine q1 _ ?_
  refine step (v := vi (a0.length : Int)) (st_len (xs := a0) (e := eapi_Row) rfl) ?_
  iterate 2 refine q1 _ ?_
  by_cases hg1 : decide ((a0.length : Int) ≤ 1000) = true
  ·
   replace hv := iteT hg1 hv
   obtain ⟨r2, hr2, hv⟩ := bindE hv
   refine qG _ hg1 ?_
   refine q1 _ ?_
   refine qG _ hg1 ?_
   refine q1 _ ?_
   refine qG _ hg1 ?_
   refine stepC (r := .bool r2) (ArgsOk.dt (ArgsOk.dt ArgsOk.nil')) (c_slices_ContainsFunc_api_Row ⟨88, [], rfl, fun _ _ h => c_table_Right_1 h⟩ hr2) ?_
   refine qG _ hg1 ?_
   refine q1 _ ?_
   refine step (v := vb (!r2)) (st_pickT (b := decide ((a0.length : Int) ≤ 1000)) rfl hg1 rfl) ?_
   refine q1 _ ?_
   have hh := Option.some.inj hv
   subst hh
   exact nR []
  ·
   replace hv := iteF hg1 hv
   iterate 4 refine qX _ hg1 ?_
   refine step (v := vb false) (st_pickF (b := decide ((a0.length : Int) ≤ 1000)) rfl hg1 rfl) ?_
   refine q1 _ ?_
   have hh := Option.some.inj hv
   subst hh
   exact nR []
 have hh := Option.some.inj h
 subst hh
 refine NWp.ret ?_
 show FQ _ _ _ _
 exact FQ.mk1 (.inr rfl) (res_t (v := vb y3) rfl rfl) (RV.d trivial)

theorem c_merge_Of_2 {a0 : (List api_Row)} {r : Bool} (h : merge_Of_2 a0 = some r) : PCall Try.prog 69 [eL (some 2) eapi_Row a0] (.bool r) := by
 refine PCall.introN ok69 (show 1 ≤ 6 by decide) ?_
 refine NWp.norm (s0 := ⟨tab [(0, vl1 a0)], stab [], 0⟩) (nr []) ?_
 refine NWp.opsJ ⟨tab [(0, vl1 a0)], stab [], 0⟩ ?_ ?_
 ·
  refine q1 _ ?_
  exact nR []
 obtain ⟨r1, hr1, h⟩ := bindE h
 refine NWp.opsJ ⟨tab [(2, vb (!r1))], stab [], 0⟩ ?_ ?_
 ·
  refine q1 _ ?_
  refine stepC (r := .bool r1) (ArgsOk.dt ArgsOk.nil') (c_table_Right hr1) ?_
  iterate 2 refine q1 _ ?_
  exact nR []
 have hh := Option.some.inj h
 subst hh
 refine NWp.ret ?_
 show FQ _ _ _ _
 exact FQ.mk1 (.inr rfl) (res_t (v := vb (!r1)) rfl rfl) (RV.d trivial)

theorem c_merge_Of {a0 : (List (List api_Row))} {r : (api_Table × Int)} (h : merge_Of a0 = some r) : PCall Try.prog 38 [eL none (eL (some 2) eapi_Row) a0] (.tup [eapi_Table r.1, .int .i64 r.2]) := by
 refine PCall.introN ok38 (show 1 ≤ 52 by decide) ?_
 refine NWp.norm (s0 := ⟨tab [(0, .d (eL none (eL (some 2) eapi_Row) a0))], stab [], 0⟩) (nr []) ?_
 refine NWp.opsJ ⟨tab [(0, .d (eL none (eL (some 2) eapi_Row) a0)), (2, .ptr 0 0 0)], stab [(0, .var [vl2 [], .d (eL none (eL (some 2) eapi_Row) [])])], 1⟩ ?_ ?_
 ·
  refine step (v := .ptr 0 0 0) (σ' := (upd (stab []) 0 (some (.var [vl2 [], .d (eL none (eL (some 2) eapi_Row) [])])))) (n' := 1) rfl ?_
  refine q1 _ ?_
  exact nR [0]
 refine NWp.opsJ ⟨tab [(0, .d (eL none (eL (some 2) eapi_Row) a0)), (2, .ptr 0 0 0), (4, .ptr 1 0 0)], stab [(0, .var [vl2 [], .d (eL none (eL (some 2) eapi_Row) [])]), (1, .var [.d (.nils), .d (.nils)])], 2⟩ ?_ ?_
 ·
  refine step (v := .ptr 1 0 0) (σ' := (upd (stab [(0, .var [vl2 [], .d (eL none (eL (some 2) eapi_Row) [])])]) 1 (some (.var [.d (.nils), .d (.nils)])))) (n' := 2) rfl ?_
  exact nR [0, 1]
 refine NWp.seq ?_
 refine NWp.opsJ ⟨tab [(0, .d (eL none (eL (some 2) eapi_Row) a0)), (2, .ptr 0 0 0), (4, .ptr 1 0 0), (8, .d (eL none (eL (some 2) eapi_Row) a0)), (9, vi (a0.length : Int)), (10, vi 0)], stab [(0, .var [vl2 [], .d (eL none (eL (some 2) eapi_Row) [])]), (1, .var [.d (.nils), .d (.nils)])], 2⟩ ?_ ?_
 ·
  refine q1 _ ?_
  refine step (v := vi (a0.length : Int)) (st_len (xs := a0) (e := (eL (some 2) eapi_Row)) rfl) ?_
  refine q1 _ ?_
  exact nR [0, 1]
 obtain ⟨q26, hl, h⟩ := bindE h
 obtain ⟨z17, z18⟩ := q26
 refine NWp.norm (s0 := ⟨tab [(0, .d (eL none (eL (some 2) eapi_Row) a0)), (2, .ptr 0 0 0), (4, .ptr 1 0 0), (8, .d (eL none (eL (some 2) eapi_Row) a0)), (9, vi (a0.length : Int)), (10, vi 0)], stab [(0, .var [vl2 [], .d (eL none (eL (some 2) eapi_Row) [])]), (1, .var [.loc 2 0 (([] : List Int).length), .loc 3 0 (([] : List (List api_Row)).length)]), (2, .lst false none (List.map (D.int .i64) ([] : List Int))), (3, .lst false none (List.map (eL (some 2) eapi_Row) ([] : List (List api_Row))))], 4⟩) (Norm.trans (s2 := ⟨tab [(0, .d (eL none (eL (some 2) eapi_Row) a0)), (2, .ptr 0 0 0), (4, .ptr 1 0 0), (8, .d (eL none (eL (some 2) eapi_Row) a0)), (9, vi (a0.length : Int)), (10, vi 0)], stab [(0, .var [vl2 [], .d (eL none (eL (some 2) eapi_Row) [])]), (1, .var [.loc 2 0 (([] : List Int).length), .loc 3 0 (([] : List (List api_Row)).length)]), (2, .lst false none (List.map (D.int .i64) ([] : List Int))), (3, .lst false none (List.map (eL (some 2) eapi_Row) ([] : List (List api_Row))))], 4⟩) (Norm.nilcell 1 0 false none rfl rfl (show 1 ≠ 2 by decide)) (Norm.trans (s2 := ⟨tab [(0, .d (eL none (eL (some 2) eapi_Row) a0)), (2, .ptr 0 0 0), (4, .ptr 1 0 0), (8, .d (eL none (eL (some 2) eapi_Row) a0)), (9, vi (a0.length : Int)), (10, vi 0)], stab [(0, .var [vl2 [], .d (eL none (eL (some 2) eapi_Row) [])]), (1, .var [.loc 2 0 (([] : List Int).length), .loc 3 0 (([] : List (List api_Row)).length)]), (2, .lst false none (List.map (D.int .i64) ([] : List Int))), (3, .lst false none (List.map (eL (some 2) eapi_Row) ([] : List (List api_Row))))], 4⟩) (Norm.nilcell 1 1 false none rfl rfl (show 1 ≠ 3 by decide)) (nr [0, 1, 2, 3]))) ?_
 refine NWp.block ?_
 refine loop_forO (cntU (a0.length : Int)) (fun (i3 : Int) (qq : ((List Int) × (List (List api_Row)))) => ⟨tab [(0, .d (eL none (eL (some 2) eapi_Row) a0)), (2, .ptr 0 0 0), (4, .ptr 1 0 0), (8, .d (eL none (eL (some 2) eapi_Row) a0)), (9, vi (a0.length : Int)), (10, vi i3)], stab [(0, .var [vl2 [], .d (eL none (eL (some 2) eapi_Row) [])]), (1, .var [.loc 2 0 qq.1.length, .loc 3 0 qq.2.length]), (2, .lst false none (List.map (D.int .i64) qq.1)), (3, .lst false none (List.map (eL (some 2) eapi_Row) qq.2))], 4⟩) 0 (fun (qq : ((List Int) × (List (List api_Row)))) => ⟨tab [(0, .d (eL none (eL (some 2) eapi_Row) a0)), (2, .ptr 0 0 0), (4, .ptr 1 0 0)], stab [(0, .var [vl2 [], .d (eL none (eL (some 2) eapi_Row) [])]), (1, .var [.loc 2 0 qq.1.length, .loc 3 0 qq.2.length]), (2, .lst false none (List.map (D.int .i64) qq.1)), (3, .lst false none (List.map (eL (some 2) eapi_Row) qq.2))], 4⟩) Low low_step hl (by unfold Low; omega) ?_ ?_ ?_
 ·
  rintro i3 ⟨l1, l2⟩ xr8 hinv6 hgo5 h
  show NWp _ _ _ _ _ ⟨tab [(0, .d (eL none (eL (some 2) eapi_Row) a0)), (2, .ptr 0 0 0), (4, .ptr 1 0 0), (8, .d (eL none (eL (some 2) eapi_Row) a0)), (9, vi (a0.length : Int)), (10, vi i3)], stab [(0, .var [vl2 [], .d (eL none (eL (some 2) eapi_Row) [])]), (1, .var [.loc 2 0 l1.length, .loc 3 0 l2.length]), (2, .lst false none (List.map (D.int .i64) l1)), (3, .lst false none (List.map (eL (some 2) eapi_Row) l2))], 4⟩
  have hc7 : decide (i3 < (a0.length : Int)) = true := decide_eq_true hgo5
  refine NWp.opsJ ⟨tab [(0, .d (eL none (eL (some 2) eapi_Row) a0)), (2, .ptr 0 0 0), (4, .ptr 1 0 0), (8, .d (eL none (eL (some 2) eapi_Row) a0)), (9, vi (a0.length : Int)), (10, vi i3), (11, vb (decide (i3 < (a0.length : Int))))], stab [(0, .var [vl2 [], .d (eL none (eL (some 2) eapi_Row) [])]), (1, .var [.loc 2 0 l1.length, .loc 3 0 l2.length]), (2, .lst false none (List.map (D.int .i64) l1)), (3, .lst false none (List.map (eL (some 2) eapi_Row) l2))], 4⟩ ?_ ?_
  ·
   refine q1 _ ?_
   exact nR [0, 1, 2, 3]
  refine NWp.rng 9 rfl fun hB4 => ?_
  refine NWp.seq ?_
  refine NWp.condT (t := decide (i3 < (a0.length : Int))) rfl hc7 ?_
  refine NWp.skip ?_
  refine NWp.seq ?_
  refine NWp.block ?_
  obtain ⟨x9, hx9, h⟩ := bindE h
  refine NWp.opsJ ⟨tab [(0, .d (eL none (eL (some 2) eapi_Row) a0)), (2, .ptr 0 0 0), (4, .ptr 1 0 0), (6, .ptr 4 0 0), (8, .d (eL none (eL (some 2) eapi_Row) a0)), (9, vi (a0.length : Int)), (10, vi i3)], stab [(0, .var [vl2 [], .d (eL none (eL (some 2) eapi_Row) [])]), (1, .var [.loc 2 0 l1.length, .loc 3 0 l2.length]), (2, .lst false none (List.map (D.int .i64) l1)), (3, .lst false none (List.map (eL (some 2) eapi_Row) l2)), (4, .var [vl1 x9])], 5⟩ ?_ ?_
  ·
   refine step (v := .d (.cptr none (eL (some 2) eapi_Row x9) 0)) (st_iaddr (xs := a0) (e := (eL (some 2) eapi_Row)) hx9 rfl rfl) ?_
   refine q1 _ ?_
   refine step (v := .ptr 4 0 0) (σ' := (upd (stab [(0, .var [vl2 [], .d (eL none (eL (some 2) eapi_Row) [])]), (1, .var [.loc 2 0 l1.length, .loc 3 0 l2.length]), (2, .lst false none (List.map (D.int .i64) l1)), (3, .lst false none (List.map (eL (some 2) eapi_Row) l2))]) 4 (some (.var [vl1 []])))) (n' := 5) rfl ?_
   refine step (v := V.undef) (σ' := (upd (upd (stab [(0, .var [vl2 [], .d (eL none (eL (some 2) eapi_Row) [])]), (1, .var [.loc 2 0 l1.length, .loc 3 0 l2.length]), (2, .lst false none (List.map (D.int .i64) l1)), (3, .lst false none (List.map (eL (some 2) eapi_Row) l2))]) 4 (some (.var [vl1 []]))) 4 (some (.var [vl1 x9])))) (n' := 5) rfl ?_
   exact nR [0, 1, 2, 3, 4]
  obtain ⟨r10, hr10, h⟩ := bindE h
  refine NWp.opsJ ⟨tab [(0, .d (eL none (eL (some 2) eapi_Row) a0)), (2, .ptr 0 0 0), (4, .ptr 1 0 0), (6, .ptr 4 0 0), (7, vi r10), (8, .d (eL none (eL (some 2) eapi_Row) a0)), (9, vi (a0.length : Int)), (10, vi i3)], stab [(0, .var [vl2 [], .d (eL none (eL (some 2) eapi_Row) [])]), (1, .var [.loc 2 0 l1.length, .loc 3 0 l2.length]), (2, .lst false none (List.map (D.int .i64) l1)), (3, .lst false none (List.map (eL (some 2) eapi_Row) l2)), (4, .var [vl1 x9])], 5⟩ ?_ ?_
  ·
   iterate 3 refine q1 _ ?_
   refine stepW (v := vi r10) (σ' := _) (n' := _) (PCall.borrow (c_slices_IndexFunc_Lapi_Row ⟨66, [.cptr none (eL (some 2) eapi_Row x9) 0], rfl, fun _ _ h => c_merge_Of_1 h⟩ hr10) rfl (ViewsB.c (viewB_all (xs := l2) (e := (eL (some 2) eapi_Row)) rfl rfl) (ViewsB.c (viewB_func (ViewsB.c (.var1 rfl (.d _) rfl) ViewsB.nil0)) ViewsB.nil0))) (Nat.le_refl _) ?_
   refine q1 _ ?_
   exact nR [0, 1, 2, 3, 4]
  obtain ⟨q15, hv, h⟩ := bindE h
  obtain ⟨l13, y14⟩ := q15
  refine NWp.seqN ⟨tab [(0, .d (eL none (eL (some 2) eapi_Row) a0)), (2, .ptr 0 0 0), (4, .ptr 1 0 0), (7, vi y14), (8, .d (eL none (eL (some 2) eapi_Row) a0)), (9, vi (a0.length : Int)), (10, vi i3)], stab [(0, .var [vl2 [], .d (eL none (eL (some 2) eapi_Row) [])]), (1, .var [.loc 2 0 l1.length, .loc 3 0 l13.length]), (2, .lst false none (List.map (D.int .i64) l1)), (3, .lst false none (List.map (eL (some 2) eapi_Row) l13))], 4⟩ ?_ ?_
  ·
   replace h := hv
   refine NWp.opsJ ⟨tab [(0, .d (eL none (eL (some 2) eapi_Row) a0)), (2, .ptr 0 0 0), (4, .ptr 1 0 0), (6, .ptr 4 0 0), (7, vi r10), (8, .d (eL none (eL (some 2) eapi_Row) a0)), (9, vi (a0.length : Int)), (10, vi i3), (19, vb (decide (r10 < 0)))], stab [(0, .var [vl2 [], .d (eL none (eL (some 2) eapi_Row) [])]), (1, .var [.loc 2 0 l1.length, .loc 3 0 l2.length]), (2, .lst false none (List.map (D.int .i64) l1)), (3, .lst false none (List.map (eL (some 2) eapi_Row) l2)), (4, .var [vl1 x9])], 5⟩ ?_ ?_
   ·
    iterate 2 refine q1 _ ?_
    exact nR [0, 1, 2, 3, 4]
   by_cases hc11 : decide (r10 < 0) = true
   ·
    replace h := iteT hc11 h
    refine NWp.condT (t := decide (r10 < 0)) rfl hc11 ?_
    refine NWp.opsJ ⟨tab [(0, .d (eL none (eL (some 2) eapi_Row) a0)), (2, .ptr 0 0 0), (4, .ptr 1 0 0), (6, .ptr 4 0 0), (7, vi (l2.length : Int)), (8, .d (eL none (eL (some 2) eapi_Row) a0)), (9, vi (a0.length : Int)), (10, vi i3)], stab [(0, .var [vl2 [], .d (eL none (eL (some 2) eapi_Row) [])]), (1, .var [.loc 2 0 l1.length, .loc 3 0 l2.length]), (2, .lst false none (List.map (D.int .i64) l1)), (3, .lst false none (List.map (eL (some 2) eapi_Row) l2)), (4, .var [vl1 x9])], 5⟩ ?_ ?_
    ·
     iterate 4 refine q1 _ ?_
     exact nR [0, 1, 2, 3, 4]
    obtain ⟨l12, hl12, h⟩ := bindE h
    have hh := Option.some.inj h
    obtain ⟨he0, ht0⟩ := Prod.mk.inj hh
    subst he0
    subst ht0
    refine NWp.opsE ⟨tab [(0, .d (eL none (eL (some 2) eapi_Row) a0)), (2, .ptr 0 0 0), (4, .ptr 1 0 0), (7, vi (l2.length : Int)), (8, .d (eL none (eL (some 2) eapi_Row) a0)), (9, vi (a0.length : Int)), (10, vi i3)], stab [(0, .var [vl2 [], .d (eL none (eL (some 2) eapi_Row) [])]), (1, .var [.loc 2 0 l1.length, .loc 3 0 l12.length]), (2, .lst false none (List.map (D.int .i64) l1)), (3, .lst false none (List.map (eL (some 2) eapi_Row) l12))], 4⟩ ?_ ?_
    ·
     iterate 4 refine q1 _ ?_
     refine step (v := .loc 5 0 l12.length) (σ' := (upd (upd (stab [(0, .var [vl2 [], .d (eL none (eL (some 2) eapi_Row) [])]), (1, .var [.loc 2 0 l1.length, .loc 3 0 l2.length]), (2, .lst false none (List.map (D.int .i64) l1)), (3, .lst false none (List.map (eL (some 2) eapi_Row) l2)), (4, .var [vl1 x9])]) 3 none) 5 (some (.lst false none (List.map (eL (some 2) eapi_Row) l12))))) (n' := 6) (st_app (xs := l2) (ys := ([x9] : List (List api_Row))) (e := (eL (some 2) eapi_Row)) hl12 rfl rfl rfl (src_v (xs := ([x9] : List (List api_Row))) (e := (eL (some 2) eapi_Row)) rfl)) ?_
     refine q1 _ ?_
     refine step (v := V.undef) (σ' := (upd (upd (upd (stab [(0, .var [vl2 [], .d (eL none (eL (some 2) eapi_Row) [])]), (1, .var [.loc 2 0 l1.length, .loc 3 0 l2.length]), (2, .lst false none (List.map (D.int .i64) l1)), (3, .lst false none (List.map (eL (some 2) eapi_Row) l2)), (4, .var [vl1 x9])]) 3 none) 5 (some (.lst false none (List.map (eL (some 2) eapi_Row) l12)))) 1 (some (.var [.loc 2 0 l1.length, .loc 5 0 l12.length])))) (n' := 6) rfl ?_
     exact nR [0, 1, 2, 5]
    exact And.intro rfl rfl
   ·
    replace h := iteF hc11 h
    refine NWp.condF (t := decide (r10 < 0)) rfl hc11 ?_
    have hh := Option.some.inj h
    obtain ⟨he0, ht0⟩ := Prod.mk.inj hh
    subst he0
    subst ht0
    refine NWp.norm (s0 := ⟨tab [(0, .d (eL none (eL (some 2) eapi_Row) a0)), (2, .ptr 0 0 0), (4, .ptr 1 0 0), (7, vi r10), (8, .d (eL none (eL (some 2) eapi_Row) a0)), (9, vi (a0.length : Int)), (10, vi i3)], stab [(0, .var [vl2 [], .d (eL none (eL (some 2) eapi_Row) [])]), (1, .var [.loc 2 0 l1.length, .loc 3 0 l2.length]), (2, .lst false none (List.map (D.int .i64) l1)), (3, .lst false none (List.map (eL (some 2) eapi_Row) l2))], 4⟩) (nr [0, 1, 2, 3]) ?_
    refine NWp.skip ?_
    exact And.intro rfl rfl
  obtain ⟨l16, hl16, h⟩ := bindE h
  refine NWp.opsE ⟨tab [(0, .d (eL none (eL (some 2) eapi_Row) a0)), (2, .ptr 0 0 0), (4, .ptr 1 0 0), (8, .d (eL none (eL (some 2) eapi_Row) a0)), (9, vi (a0.length : Int)), (10, vi i3)], stab [(0, .var [vl2 [], .d (eL none (eL (some 2) eapi_Row) [])]), (1, .var [.loc 2 0 l16.length, .loc 3 0 l13.length]), (2, .lst false none (List.map (D.int .i64) l16)), (3, .lst false none (List.map (eL (some 2) eapi_Row) l13))], 4⟩ ?_ ?_
  ·
   iterate 4 refine q1 _ ?_
   refine step (v := .loc 4 0 l16.length) (σ' := (upd (upd (stab [(0, .var [vl2 [], .d (eL none (eL (some 2) eapi_Row) [])]), (1, .var [.loc 2 0 l1.length, .loc 3 0 l13.length]), (2, .lst false none (List.map (D.int .i64) l1)), (3, .lst false none (List.map (eL (some 2) eapi_Row) l13))]) 2 none) 4 (some (.lst false none (List.map (D.int .i64) l16))))) (n' := 5) (st_app (xs := l1) (ys := ([y14] : List Int)) (e := (D.int .i64)) hl16 rfl rfl rfl (src_v (xs := ([y14] : List Int)) (e := (D.int .i64)) rfl)) ?_
   refine q1 _ ?_
   refine step (v := V.undef) (σ' := (upd (upd (upd (stab [(0, .var [vl2 [], .d (eL none (eL (some 2) eapi_Row) [])]), (1, .var [.loc 2 0 l1.length, .loc 3 0 l13.length]), (2, .lst false none (List.map (D.int .i64) l1)), (3, .lst false none (List.map (eL (some 2) eapi_Row) l13))]) 2 none) 4 (some (.lst false none (List.map (D.int .i64) l16)))) 1 (some (.var [.loc 4 0 l16.length, .loc 3 0 l13.length])))) (n' := 5) rfl ?_
   exact nR [0, 1, 4, 3]
  have hh := Option.some.inj h
  subst hh
  refine NWp.opsE ⟨tab [(0, .d (eL none (eL (some 2) eapi_Row) a0)), (2, .ptr 0 0 0), (4, .ptr 1 0 0), (8, .d (eL none (eL (some 2) eapi_Row) a0)), (9, vi (a0.length : Int)), (10, vi (i3 + 1))], stab [(0, .var [vl2 [], .d (eL none (eL (some 2) eapi_Row) [])]), (1, .var [.loc 2 0 l16.length, .loc 3 0 l13.length]), (2, .lst false none (List.map (D.int .i64) l16)), (3, .lst false none (List.map (eL (some 2) eapi_Row) l13))], 4⟩ ?_ ?_
  ·
   refine step (v := vi (i3 + 1)) (st_inc (inc_ok hinv6 hgo5 hB4) rfl rfl) ?_
   refine q1 _ ?_
   exact nR [0, 1, 2, 3]
  exact And.intro rfl rfl
 ·
  rintro i3 ⟨l1, l2⟩ hinv6 hgo5
  show NWp _ _ _ _ _ ⟨tab [(0, .d (eL none (eL (some 2) eapi_Row) a0)), (2, .ptr 0 0 0), (4, .ptr 1 0 0), (8, .d (eL none (eL (some 2) eapi_Row) a0)), (9, vi (a0.length : Int)), (10, vi i3)], stab [(0, .var [vl2 [], .d (eL none (eL (some 2) eapi_Row) [])]), (1, .var [.loc 2 0 l1.length, .loc 3 0 l2.length]), (2, .lst false none (List.map (D.int .i64) l1)), (3, .lst false none (List.map (eL (some 2) eapi_Row) l2))], 4⟩
  have hc7 : ¬ (decide (i3 < (a0.length : Int)) = true) := fun hq => hgo5 (of_decide_eq_true hq)
  refine NWp.opsJ ⟨tab [(0, .d (eL none (eL (some 2) eapi_Row) a0)), (2, .ptr 0 0 0), (4, .ptr 1 0 0), (8, .d (eL none (eL (some 2) eapi_Row) a0)), (9, vi (a0.length : Int)), (10, vi i3), (11, vb (decide (i3 < (a0.length : Int))))], stab [(0, .var [vl2 [], .d (eL none (eL (some 2) eapi_Row) [])]), (1, .var [.loc 2 0 l1.length, .loc 3 0 l2.length]), (2, .lst false none (List.map (D.int .i64) l1)), (3, .lst false none (List.map (eL (some 2) eapi_Row) l2))], 4⟩ ?_ ?_
  ·
   refine q1 _ ?_
   exact nR [0, 1, 2, 3]
  refine NWp.seq ?_
  refine NWp.condF (t := decide (i3 < (a0.length : Int))) rfl hc7 ?_
  refine NWp.norm (s0 := ⟨tab [(0, .d (eL none (eL (some 2) eapi_Row) a0)), (2, .ptr 0 0 0), (4, .ptr 1 0 0)], stab [(0, .var [vl2 [], .d (eL none (eL (some 2) eapi_Row) [])]), (1, .var [.loc 2 0 l1.length, .loc 3 0 l2.length]), (2, .lst false none (List.map (D.int .i64) l1)), (3, .lst false none (List.map (eL (some 2) eapi_Row) l2))], 4⟩) (nr [0, 1, 2, 3]) ?_
  refine NWp.exit ?_
  exact And.intro rfl rfl
 refine NWp.seq ?_
 refine NWp.block ?_
 obtain ⟨r19, hr19, h⟩ := bindE h
 refine NWp.opsJ ⟨tab [(0, .d (eL none (eL (some 2) eapi_Row) a0)), (2, .ptr 0 0 0), (4, .ptr 1 0 0), (36, vb (decide (r19 > 1000)))], stab [(0, .var [vl2 [], .d (eL none (eL (some 2) eapi_Row) [])]), (1, .var [.loc 2 0 z17.length, .loc 3 0 z18.length]), (2, .lst false none (List.map (D.int .i64) z17)), (3, .lst false none (List.map (eL (some 2) eapi_Row) z18))], 4⟩ ?_ ?_
 ·
  refine q1 _ ?_
  refine stepC (r := .int .i64 r19) (ArgsOk.vw (va_agg (optC (vc_l (xs := z17) (e := (D.int .i64)) rfl rfl) (optC (vc_l (xs := z18) (e := (eL (some 2) eapi_Row)) rfl rfl) optN))) (Sub.aggs (by exact ⟨.refl _, .refl _, trivial⟩)) ArgsOk.nil') (c_merge_Rows hr19) ?_
  iterate 2 refine q1 _ ?_
  exact nR [0, 1, 2, 3]
 by_cases hc20 : decide (r19 > 1000) = true
 ·
  replace h := iteT hc20 h
  refine NWp.condT (t := decide (r19 > 1000)) rfl hc20 ?_
  refine NWp.opsJ ⟨tab [(2, .ptr 0 0 0), (3, vi 24)], stab [(0, .var [vl2 [], .d (eL none (eL (some 2) eapi_Row) [])])], 1⟩ ?_ ?_
  ·
   refine step (v := vs2 (api_Table.mk [] [])) (st_build (ds := [eL none (D.int .i64) [], eL none (eL (some 2) eapi_Row) []]) rfl) ?_
   refine step (v := V.undef) (σ' := (upd (stab [(0, .var [vl2 [], .d (eL none (eL (some 2) eapi_Row) [])]), (1, .var [.loc 2 0 z17.length, .loc 3 0 z18.length]), (2, .lst false none (List.map (D.int .i64) z17)), (3, .lst false none (List.map (eL (some 2) eapi_Row) z18))]) 0 (some (.var [vl2 [], .d (eL none (eL (some 2) eapi_Row) [])])))) (n' := 4) rfl ?_
   refine q1 _ ?_
   exact nR [0]
  have hh := Option.some.inj h
  subst hh
  refine NWp.ret ?_
  show FQ _ _ _ _
  exact FQ.mkT (.inr rfl) (res_cell (ds := [eL none (D.int .i64) [], eL none (eL (some 2) eapi_Row) []]) rfl rfl (show 2 ≤ 2 by decide) rfl (res_t (v := vi 24) rfl rfl)) (RV.d (RV.d trivial))
 ·
  replace h := iteF hc20 h
  refine NWp.condF (t := decide (r19 > 1000)) rfl hc20 ?_
  obtain ⟨y23, hv, h⟩ := bindE h
  refine NWp.opsJ ⟨tab [(2, .ptr 0 0 0), (4, .ptr 1 0 0), (41, vb y23)], stab [(0, .var [vl2 [], .d (eL none (eL (some 2) eapi_Row) [])]), (1, .var [.loc 2 0 z17.length, .loc 3 0 z18.length]), (2, .lst false none (List.map (D.int .i64) z17)), (3, .lst false none (List.map (eL (some 2) eapi_Row) z18))], 4⟩ ?_ ?_
  ·
   refine q1 _ ?_
   refine step (v := vi (a0.length : Int)) (st_len (xs := a0) (e := (eL (some 2) eapi_Row)) rfl) ?_
   iterate 2 refine q1 _ ?_
   by_cases hg21 : decide ((a0.length : Int) > 256) = true
   ·
    replace hv := iteT hg21 hv
    iterate 3 refine qX (decide ((a0.length : Int) > 256)) (by rw [hg21]; decide) ?_
    refine step (v := vb true) (st_pickT (b := decide ((a0.length : Int) > 256)) rfl hg21 rfl) ?_
    refine q1 _ ?_
    have hh := Option.some.inj hv
    subst hh
    exact nR [0, 1, 2, 3]
   ·
    replace hv := iteF hg21 hv
    obtain ⟨r22, hr22, hv⟩ := bindE hv
    refine qG (decide ((a0.length : Int) > 256)) (Bool.eq_false_iff.2 hg21) ?_
    refine q1 _ ?_
    refine qG (decide ((a0.length : Int) > 256)) (Bool.eq_false_iff.2 hg21) ?_
    refine q1 _ ?_
    refine qG (decide ((a0.length : Int) > 256)) (Bool.eq_false_iff.2 hg21) ?_
    refine stepC (r := .bool r22) (ArgsOk.lcm (xs := z18) (e := (eL (some 2) eapi_Row)) rfl rfl (ArgsOk.dt ArgsOk.nil')) (c_slices_ContainsFunc_Lapi_Row ⟨69, [], rfl, fun _ _ h => c_merge_Of_2 h⟩ hr22) ?_
    refine step (v := vb r22) (st_pickF (b := decide ((a0.length : Int) > 256)) rfl hg21 rfl) ?_
    refine q1 _ ?_
    have hh := Option.some.inj hv
    subst hh
    exact nR [0, 1, 2, 3]
  by_cases hc25 : y23 = true
  ·
   replace h := iteT hc25 h
   refine NWp.condT (t := y23) rfl hc25 ?_
   refine NWp.opsJ ⟨tab [(2, .ptr 0 0 0), (3, vi 1)], stab [(0, .var [vl2 [], .d (eL none (eL (some 2) eapi_Row) [])])], 1⟩ ?_ ?_
   ·
    refine step (v := vs2 (api_Table.mk [] [])) (st_build (ds := [eL none (D.int .i64) [], eL none (eL (some 2) eapi_Row) []]) rfl) ?_
    refine step (v := V.undef) (σ' := (upd (stab [(0, .var [vl2 [], .d (eL none (eL (some 2) eapi_Row) [])]), (1, .var [.loc 2 0 z17.length, .loc 3 0 z18.length]), (2, .lst false none (List.map (D.int .i64) z17)), (3, .lst false none (List.map (eL (some 2) eapi_Row) z18))]) 0 (some (.var [vl2 [], .d (eL none (eL (some 2) eapi_Row) [])])))) (n' := 4) rfl ?_
    refine q1 _ ?_
    exact nR [0]
   have hh := Option.some.inj h
   subst hh
   refine NWp.ret ?_
   show FQ _ _ _ _
   exact FQ.mkT (.inr rfl) (res_cell (ds := [eL none (D.int .i64) [], eL none (eL (some 2) eapi_Row) []]) rfl rfl (show 2 ≤ 2 by decide) rfl (res_t (v := vi 1) rfl rfl)) (RV.d (RV.d trivial))
  ·
   replace h := iteF hc25 h
   refine NWp.condF (t := y23) rfl hc25 ?_
   refine NWp.skip ?_
   refine NWp.opsJ ⟨tab [(2, .ptr 0 0 0), (3, vi 0)], stab [(0, .var [.loc 1 0 z17.length, .loc 2 0 z18.length]), (1, .lst false none (List.map (D.int .i64) z17)), (2, .lst false none (List.map (eL (some 2) eapi_Row) z18))], 3⟩ ?_ ?_
   ·
    refine q1 _ ?_
    refine step (v := V.undef) (σ' := (upd (stab [(0, .var [vl2 [], .d (eL none (eL (some 2) eapi_Row) [])]), (1, .var [.loc 2 0 z17.length, .loc 3 0 z18.length]), (2, .lst false none (List.map (D.int .i64) z17)), (3, .lst false none (List.map (eL (some 2) eapi_Row) z18))]) 0 (some (.var [.loc 2 0 z17.length, .loc 3 0 z18.length])))) (n' := 4) rfl ?_
    refine q1 _ ?_
    exact nR [0, 2, 3]
   have hh := Option.some.inj h
   subst hh
   refine NWp.ret ?_
   show FQ _ _ _ _
   exact FQ.mkT (.inr rfl) rfl (RV.agg (RV0.loc (xs := z17) (e := (D.int .i64)) rfl rfl (RV0.loc (xs := z18) (e := (eL (some 2) eapi_Row)) rfl rfl trivial)) (RV.d trivial))

theorem c_merge_list {a0 : api_Table} {a1 : Int} {r : ((List api_Row) × Bool)} (h : merge_list a0 a1 = some r) : PCall Try.prog 82 [eapi_Table a0, .int .u16 a1] (.tup [eL (some 2) eapi_Row r.1, .bool r.2]) := by
 refine PCall.introN ok82 (show 2 ≤ 32 by decide) ?_
 refine NWp.norm (s0 := ⟨tab [(0, vs2 a0), (1, vh a1)], stab [], 0⟩) (nr []) ?_
 refine NWp.opsJ ⟨tab [(1, vh a1), (2, vp0 a0)], stab [], 0⟩ ?_ ?_
 ·
  iterate 3 refine q1 _ ?_
  exact nR []
 refine NWp.seq ?_
 refine NWp.opsJ ⟨tab [(1, vh a1), (2, vp0 a0), (12, vb (decide ((IntKind.i64.wrap a1) ≥ (a0.Which.length : Int))))], stab [], 0⟩ ?_ ?_
 ·
  iterate 4 refine q1 _ ?_
  refine step (v := vi (a0.Which.length : Int)) (st_len (xs := a0.Which) (e := (D.int .i64)) rfl) ?_
  refine q1 _ ?_
  exact nR []
 by_cases hc1 : decide ((IntKind.i64.wrap a1) ≥ (a0.Which.length : Int)) = true
 ·
  replace h := iteT hc1 h
  refine NWp.condT (t := decide ((IntKind.i64.wrap a1) ≥ (a0.Which.length : Int))) rfl hc1 ?_
  refine NWp.opsJ ⟨tab [(4, vl1 ([] : List api_Row)), (5, vb false)], stab [], 0⟩ ?_ ?_
  ·
   iterate 2 refine q1 _ ?_
   exact nR []
  have hh := Option.some.inj h
  subst hh
  refine NWp.ret ?_
  show FQ _ _ _ _
  exact FQ.mkT (.inr rfl) (res_t (v := vl1 ([] : List api_Row)) rfl (res_t (v := vb false) rfl rfl)) (RV.d (RV.d trivial))
 ·
  replace h := iteF hc1 h
  refine NWp.condF (t := decide ((IntKind.i64.wrap a1) ≥ (a0.Which.length : Int))) rfl hc1 ?_
  refine NWp.skip ?_
  obtain ⟨x2, hx2, h⟩ := bindE h
  refine NWp.opsJ ⟨tab [(2, vp0 a0), (6, vi x2)], stab [], 0⟩ ?_ ?_
  ·
   iterate 3 refine q1 _ ?_
   refine step (v := .d (.cptr none (.int .i64 x2) 0)) (st_iaddr (xs := a0.Which) (e := (D.int .i64)) hx2 rfl rfl) ?_
   iterate 2 refine q1 _ ?_
   exact nR []
  refine NWp.seq ?_
  refine NWp.opsJ ⟨tab [(2, vp0 a0), (6, vi x2), (26, vb ((decide (x2 < 0)) || (decide (x2 ≥ (a0.Lists.length : Int)))))], stab [], 0⟩ ?_ ?_
  ·
   iterate 3 refine q1 _ ?_
   by_cases hg3 : decide (x2 < 0) = true
   ·
    iterate 5 refine qX (decide (x2 < 0)) (by rw [hg3]; decide) ?_
    refine step (v := vb true) (st_pickT (b := decide (x2 < 0)) rfl hg3 rfl) ?_
    exact RunOps.nil' (nm [] ⟨.d _, .d _, .eq (by first | (simp [hg3]; done) | (simp_all; done) | grind), trivial⟩ trivial)
   ·
    refine qG (decide (x2 < 0)) (Bool.eq_false_iff.2 hg3) ?_
    refine q1 _ ?_
    refine qG (decide (x2 < 0)) (Bool.eq_false_iff.2 hg3) ?_
    refine q1 _ ?_
    refine qG (decide (x2 < 0)) (Bool.eq_false_iff.2 hg3) ?_
    refine q1 _ ?_
    refine qG (decide (x2 < 0)) (Bool.eq_false_iff.2 hg3) ?_
    refine step (v := vi (a0.Lists.length : Int)) (st_len (xs := a0.Lists) (e := (eL (some 2) eapi_Row)) rfl) ?_
    refine qG (decide (x2 < 0)) (Bool.eq_false_iff.2 hg3) ?_
    refine q1 _ ?_
    refine step (v := vb (decide (x2 ≥ (a0.Lists.length : Int)))) (st_pickF (b := decide (x2 < 0)) rfl hg3 rfl) ?_
    exact RunOps.nil' (nm [] ⟨.d _, .d _, .eq (by first | (simp [hg3]; done) | (simp_all; done) | grind), trivial⟩ trivial)
  by_cases hc4 : ((decide (x2 < 0)) || (decide (x2 ≥ (a0.Lists.length : Int)))) = true
  ·
   replace h := iteT hc4 h
   refine NWp.condT (t := ((decide (x2 < 0)) || (decide (x2 ≥ (a0.Lists.length : Int))))) rfl hc4 ?_
   refine NWp.opsJ ⟨tab [(4, vl1 ([] : List api_Row)), (5, vb false)], stab [], 0⟩ ?_ ?_
   ·
    iterate 2 refine q1 _ ?_
    exact nR []
   have hh := Option.some.inj h
   subst hh
   refine NWp.ret ?_
   show FQ _ _ _ _
   exact FQ.mkT (.inr rfl) (res_t (v := vl1 ([] : List api_Row)) rfl (res_t (v := vb false) rfl rfl)) (RV.d (RV.d trivial))
  ·
   replace h := iteF hc4 h
   refine NWp.condF (t := ((decide (x2 < 0)) || (decide (x2 ≥ (a0.Lists.length : Int))))) rfl hc4 ?_
   refine NWp.skip ?_
   obtain ⟨x5, hx5, h⟩ := bindE h
   refine NWp.opsJ ⟨tab [(4, vl1 x5), (5, vb true)], stab [], 0⟩ ?_ ?_
   ·
    iterate 3 refine q1 _ ?_
    refine step (v := .d (.cptr none (eL (some 2) eapi_Row x5) 0)) (st_iaddr (xs := a0.Lists) (e := (eL (some 2) eapi_Row)) hx5 rfl rfl) ?_
    iterate 3 refine q1 _ ?_
    exact nR []
   have hh := Option.some.inj h
   subst hh
   refine NWp.ret ?_
   show FQ _ _ _ _
   exact FQ.mkT (.inr rfl) (res_t (v := vl1 x5) rfl (res_t (v := vb true) rfl rfl)) (RV.d (RV.d trivial))

theorem c_packet_is {a0 : Int} {r : Bool} (h : packet_is a0 = some r) : PCall Try.prog 116 [.int .i64 a0] (.bool r) := by
 refine PCall.introN ok116 (show 1 ≤ 9 by decide) ?_
 refine NWp.norm (s0 := ⟨tab [(0, vi a0)], stab [], 0⟩) (nr []) ?_
 refine NWp.opsJ ⟨tab [(0, vi a0)], stab [], 0⟩ ?_ ?_
 ·
  refine q1 _ ?_
  exact nR []
 refine NWp.opsJ ⟨tab [(2, vb ((decide (a0 ≥ 0)) && (decide (a0 < 8))))], stab [], 0⟩ ?_ ?_
 ·
  iterate 3 refine q1 _ ?_
  by_cases hg1 : decide (a0 ≥ 0) = true
  ·
   refine qG _ hg1 ?_
   refine q1 _ ?_
   refine qG _ hg1 ?_
   refine q1 _ ?_
   refine step (v := vb (decide (a0 < 8))) (st_pickT (b := decide (a0 ≥ 0)) rfl hg1 rfl) ?_
   refine q1 _ ?_
   exact RunOps.nil' (nm [] ⟨.eq (by first | (simp [hg1]; done) | (simp_all; done) | grind), trivial⟩ trivial)
  ·
   iterate 2 refine qX _ hg1 ?_
   refine step (v := vb false) (st_pickF (b := decide (a0 ≥ 0)) rfl hg1 rfl) ?_
   refine q1 _ ?_
   exact RunOps.nil' (nm [] ⟨.eq (by first | (simp [hg1]; done) | (simp_all; done) | grind), trivial⟩ trivial)
 have hh := Option.some.inj h
 subst hh
 refine NWp.ret ?_
 show FQ _ _ _ _
 exact FQ.mk1 (.inr rfl) (res_t (v := vb ((decide (a0 ≥ 0)) && (decide (a0 < 8)))) rfl rfl) (RV.d trivial)

theorem c_packet_Has_1 {a0 : api_Pair} {a1 : (A8 Int)} {r : Bool} (h : packet_Has_1 a0 a1 = some r) : PCall Try.prog 115 [eapi_Pair a0, .cptr (some 8) (eA8 (D.int .u16) a1) 0] (.bool r) := by
 refine PCall.introN ok115 (show 2 ≤ 17 by decide) ?_
 refine NWp.norm (s0 := ⟨tab [(0, .d (eapi_Pair a0)), (1, .d (.cptr (some 8) (eA8 (D.int .u16) a1) 0))], stab [], 0⟩) (nr []) ?_
 refine NWp.opsJ ⟨tab [(1, .d (.cptr (some 8) (eA8 (D.int .u16) a1) 0)), (2, vp1 a0)], stab [], 0⟩ ?_ ?_
 ·
  iterate 2 refine q1 _ ?_
  exact nR []
 obtain ⟨r1, hr1, h⟩ := bindE h
 obtain ⟨y4, hv, h⟩ := bindE h
 refine NWp.opsJ ⟨tab [(3, vb y4)], stab [], 0⟩ ?_ ?_
 ·
  iterate 2 refine q1 _ ?_
  refine stepC (r := .bool r1) (ArgsOk.dt ArgsOk.nil') (c_packet_is hr1) ?_
  iterate 2 refine q1 _ ?_
  by_cases hg2 : (!r1) = true
  ·
   replace hv := iteT hg2 hv
   iterate 7 refine qX (!r1) (by rw [hg2]; decide) ?_
   refine step (v := vb true) (st_pickT (b := (!r1)) rfl hg2 rfl) ?_
   refine q1 _ ?_
   have hh := Option.some.inj hv
   subst hh
   exact nR []
  ·
   replace hv := iteF hg2 hv
   obtain ⟨x3, hx3, hv⟩ := bindE hv
   refine qG (!r1) (Bool.eq_false_iff.2 hg2) ?_
   refine q1 _ ?_
   refine qG (!r1) (Bool.eq_false_iff.2 hg2) ?_
   refine q1 _ ?_
   refine qG (!r1) (Bool.eq_false_iff.2 hg2) ?_
   refine step (v := .d (.cptr (some 8) (eA8 (D.int .u16) a1) (0 + a0.F.toNat * 1))) (st_iaddrAC (xs := a1.l) hx3 rfl rfl rfl) ?_
   refine qG (!r1) (Bool.eq_false_iff.2 hg2) ?_
   refine step (v := vh x3) (st_ldC rfl (ld_arr (e := (D.int .u16)) (xs := a1.l) (pre := []) (post := []) hx3 rfl (by decide))) ?_
   refine qG (!r1) (Bool.eq_false_iff.2 hg2) ?_
   refine q1 _ ?_
   refine qG (!r1) (Bool.eq_false_iff.2 hg2) ?_
   refine q1 _ ?_
   refine qG (!r1) (Bool.eq_false_iff.2 hg2) ?_
   refine q1 _ ?_
   refine step (v := vb (x3 != a0.N)) (st_pickF (b := (!r1)) rfl hg2 rfl) ?_
   refine q1 _ ?_
   have hh := Option.some.inj hv
   subst hh
   exact nR []
 have hh := Option.some.inj h
 subst hh
 refine NWp.ret ?_
 show FQ _ _ _ _
 exact FQ.mk1 (.inr rfl) (res_t (v := vb y4) rfl rfl) (RV.d trivial)

theorem c_slices_IndexFunc_api_Pair {a0 : (List api_Pair)} {a1 : api_Pair → Option Bool} {g_a1 : D} (hf_a1 : Fn1 Try.prog g_a1 eapi_Pair D.bool a1) {r : Int} (h : slices_IndexFunc_api_Pair a0 a1 = some r) : PCall Try.prog 125 [eL (some 2) eapi_Pair a0, g_a1] (.int .i64 r) := by
 obtain ⟨fn_a1, cap_a1, rfl, hc_a1⟩ := hf_a1
 refine PCall.introN ok125 (show 2 ≤ 19 by decide) ?_
 refine NWp.norm (s0 := ⟨tab [(0, vl0 a0), (1, .d (.func fn_a1 cap_a1))], stab [], 0⟩) (nr []) ?_
 refine NWp.opsJ ⟨tab [(0, vl0 a0), (1, .d (.func fn_a1 cap_a1))], stab [], 0⟩ ?_ ?_
 ·
  refine q1 _ ?_
  exact nR []
 refine NWp.seq ?_
 refine NWp.opsJ ⟨tab [(0, vl0 a0), (1, .d (.func fn_a1 cap_a1)), (7, vi (a0.length : Int)), (8, vi 0)], stab [], 0⟩ ?_ ?_
 ·
  refine q1 _ ?_
  refine step (v := vi (a0.length : Int)) (st_len (xs := a0) (e := eapi_Pair) rfl) ?_
  refine q1 _ ?_
  exact nR []
 obtain ⟨q10, hl, h⟩ := bindE h
 refine NWp.block ?_
 refine loop_forR (cntU (a0.length : Int)) (fun (i1 : Int) (qq : Unit) => ⟨tab [(0, vl0 a0), (1, .d (.func fn_a1 cap_a1)), (7, vi (a0.length : Int)), (8, vi i1)], stab [], 0⟩) 0 (fun (qq : Unit) => ⟨tab [], stab [], 0⟩) Low low_step (r := r) hl (by unfold Low; omega) ?_ ?_ ?_ ?_
 ·
  rintro i1 ⟨⟩ xr6 hinv4 hgo3 h
  show NWp _ _ _ _ _ ⟨tab [(0, vl0 a0), (1, .d (.func fn_a1 cap_a1)), (7, vi (a0.length : Int)), (8, vi i1)], stab [], 0⟩
  have hc5 : decide (i1 < (a0.length : Int)) = true := decide_eq_true hgo3
  refine NWp.opsJ ⟨tab [(0, vl0 a0), (1, .d (.func fn_a1 cap_a1)), (7, vi (a0.length : Int)), (8, vi i1), (9, vb (decide (i1 < (a0.length : Int))))], stab [], 0⟩ ?_ ?_
  ·
   refine q1 _ ?_
   exact nR []
  refine NWp.rng 7 rfl fun hB2 => ?_
  refine NWp.seq ?_
  refine NWp.condT (t := decide (i1 < (a0.length : Int))) rfl hc5 ?_
  refine NWp.skip ?_
  refine NWp.seq ?_
  refine NWp.block ?_
  refine NWp.opsJ ⟨tab [(0, vl0 a0), (1, .d (.func fn_a1 cap_a1)), (5, vi i1), (7, vi (a0.length : Int)), (8, vi i1)], stab [], 0⟩ ?_ ?_
  ·
   iterate 2 refine q1 _ ?_
   exact nR []
  obtain ⟨x7, hx7, h⟩ := bindE h
  obtain ⟨x8, hx8, h⟩ := bindE h
  refine NWp.opsJ ⟨tab [(0, vl0 a0), (1, .d (.func fn_a1 cap_a1)), (5, vi i1), (7, vi (a0.length : Int)), (8, vi i1), (16, vb x8)], stab [], 0⟩ ?_ ?_
  ·
   iterate 3 refine q1 _ ?_
   refine step (v := vp1 x7) (st_iaddr (xs := a0) (e := eapi_Pair) hx7 rfl rfl) ?_
   refine q1 _ ?_
   refine stepV' (r := .bool x8) rfl (ArgsOk.dt ArgsOk.nil') (hc_a1 _ _ hx8) ?_
   exact nR []
  by_cases hc9 : x8 = true
  ·
   replace h := iteT hc9 h
   refine NWp.condT (t := x8) rfl hc9 ?_
   refine NWp.opsJ ⟨tab [(4, vi i1)], stab [], 0⟩ ?_ ?_
   ·
    iterate 2 refine q1 _ ?_
    exact nR []
   obtain ⟨r10, kr10, hr⟩ := mapE (o := some i1) (g := Br.ret) h
   subst hr
   have h := kr10
   have hh := Option.some.inj h
   subst hh
   refine NWp.ret ?_
   refine And.intro (fun hn => nomatch hn) ?_
   intro hq
   have hq := hq.symm
   subst hq
   show FQ _ _ _ _
   exact FQ.mk1 (.inr rfl) (res_t (v := vi i1) rfl rfl) (RV.d trivial)
  ·
   replace h := iteF hc9 h
   refine NWp.condF (t := x8) rfl hc9 ?_
   refine NWp.skip ?_
   have hh := Option.some.inj h
   subst hh
   refine NWp.opsE ⟨tab [(0, vl0 a0), (1, .d (.func fn_a1 cap_a1)), (7, vi (a0.length : Int)), (8, vi (i1 + 1))], stab [], 0⟩ ?_ ?_
   ·
    refine step (v := vi (i1 + 1)) (st_inc (inc_ok hinv4 hgo3 hB2) rfl rfl) ?_
    refine q1 _ ?_
    exact nR []
   exact And.intro rfl rfl
 ·
  rintro i1 ⟨⟩ hinv4 hgo3
  show NWp _ _ _ _ _ ⟨tab [(0, vl0 a0), (1, .d (.func fn_a1 cap_a1)), (7, vi (a0.length : Int)), (8, vi i1)], stab [], 0⟩
  have hc5 : ¬ (decide (i1 < (a0.length : Int)) = true) := fun hq => hgo3 (of_decide_eq_true hq)
  refine NWp.opsJ ⟨tab [(0, vl0 a0), (1, .d (.func fn_a1 cap_a1)), (7, vi (a0.length : Int)), (8, vi i1), (9, vb (decide (i1 < (a0.length : Int))))], stab [], 0⟩ ?_ ?_
  ·
   refine q1 _ ?_
   exact nR []
  refine NWp.seq ?_
  refine NWp.condF (t := decide (i1 < (a0.length : Int))) rfl hc5 ?_
  refine NWp.norm (s0 := ⟨tab [], stab [], 0⟩) (nr []) ?_
  refine NWp.exit ?_
  exact And.intro rfl rfl
 ·
  intro r' hq
  subst hq
  exact Option.some.inj h
 rintro ⟨⟩ rfl
 refine NWp.opsJ ⟨tab [(4, vi (-1))], stab [], 0⟩ ?_ ?_
 ·
  refine q1 _ ?_
  exact nR []
 have hh := Option.some.inj h
 subst hh
 refine NWp.ret ?_
 show FQ _ _ _ _
 exact FQ.mk1 (.inr rfl) (res_t (v := vi (-1)) rfl rfl) (RV.d trivial)

theorem c_slices_ContainsFunc_api_Pair {a0 : (List api_Pair)} {a1 : api_Pair → Option Bool} {g_a1 : D} (hf_a1 : Fn1 Try.prog g_a1 eapi_Pair D.bool a1) {r : Bool} (h : slices_ContainsFunc_api_Pair a0 a1 = some r) : PCall Try.prog 114 [eL (some 2) eapi_Pair a0, g_a1] (.bool r) := by
 obtain ⟨fn_a1, cap_a1, rfl, hc_a1⟩ := hf_a1
 refine PCall.introN ok114 (show 2 ≤ 9 by decide) ?_
 refine NWp.norm (s0 := ⟨tab [(0, vl0 a0), (1, .d (.func fn_a1 cap_a1))], stab [], 0⟩) (nr []) ?_
 refine NWp.opsJ ⟨tab [(0, vl0 a0), (1, .d (.func fn_a1 cap_a1))], stab [], 0⟩ ?_ ?_
 ·
  refine q1 _ ?_
  exact nR []
 obtain ⟨r1, hr1, h⟩ := bindE h
 refine NWp.opsJ ⟨tab [(4, vb (decide (r1 ≥ 0)))], stab [], 0⟩ ?_ ?_
 ·
  iterate 2 refine q1 _ ?_
  refine stepC (r := .int .i64 r1) (ArgsOk.dt (ArgsOk.dt ArgsOk.nil')) (c_slices_IndexFunc_api_Pair ⟨_, _, rfl, hc_a1⟩ hr1) ?_
  iterate 2 refine q1 _ ?_
  exact nR []
 have hh := Option.some.inj h
 subst hh
 refine NWp.ret ?_
 show FQ _ _ _ _
 exact FQ.mk1 (.inr rfl) (res_t (v := vb (decide (r1 ≥ 0))) rfl rfl) (RV.d trivial)

theorem c_packet_Has {a0 : (A8 Int)} {a1 : (List api_Pair)} {r : Bool} (h : packet_Has a0 a1 = some r) : PCall Try.prog 99 [eA8 (D.int .u16) a0, eL (some 2) eapi_Pair a1] (.bool r) := by
 refine PCall.introN ok99 (show 2 ≤ 9 by decide) ?_
 refine NWp.norm (s0 := ⟨tab [(0, .d (eA8 (D.int .u16) a0)), (1, vl0 a1)], stab [], 0⟩) (nr []) ?_
 refine NWp.opsJ ⟨tab [(1, vl0 a1), (2, .d (.cptr (some 8) (eA8 (D.int .u16) a0) 0))], stab [], 0⟩ ?_ ?_
 ·
  iterate 2 refine q1 _ ?_
  exact nR []
 obtain ⟨r1, hr1, h⟩ := bindE h
 refine NWp.opsJ ⟨tab [(4, vb (!r1))], stab [], 0⟩ ?_ ?_
 ·
  iterate 2 refine q1 _ ?_
  refine stepC (r := .bool r1) (ArgsOk.dt (ArgsOk.dt ArgsOk.nil')) (c_slices_ContainsFunc_api_Pair ⟨115, [.cptr (some 8) (eA8 (D.int .u16) a0) 0], rfl, fun _ _ h => c_packet_Has_1 h⟩ hr1) ?_
  iterate 2 refine q1 _ ?_
  exact nR []
 have hh := Option.some.inj h
 subst hh
 refine NWp.ret ?_
 show FQ _ _ _ _
 exact FQ.mk1 (.inr rfl) (res_t (v := vb (!r1)) rfl rfl) (RV.d trivial)

theorem c_table_Lookup_1 {a0 : api_Row} {a1 : (A8 Int)} {r : Bool} (h : table_Lookup_1 a0 a1 = some r) : PCall Try.prog 98 [eapi_Row a0, .cptr (some 8) (eA8 (D.int .u16) a1) 0] (.bool r) := by
 refine PCall.introN ok98 (show 2 ≤ 8 by decide) ?_
 refine NWp.norm (s0 := ⟨tab [(0, vs3 a0), (1, .d (.cptr (some 8) (eA8 (D.int .u16) a1) 0))], stab [], 0⟩) (nr []) ?_
 refine NWp.opsJ ⟨tab [(1, .d (.cptr (some 8) (eA8 (D.int .u16) a1) 0)), (2, vp2 a0)], stab [], 0⟩ ?_ ?_
 ·
  iterate 2 refine q1 _ ?_
  exact nR []
 obtain ⟨r1, hr1, h⟩ := bindE h
 refine NWp.opsJ ⟨tab [(3, vb r1)], stab [], 0⟩ ?_ ?_
 ·
  iterate 3 refine q1 _ ?_
  refine stepC (r := .bool r1) (ArgsOk.dt (ArgsOk.dt ArgsOk.nil')) (c_packet_Has hr1) ?_
  refine q1 _ ?_
  exact nR []
 have hh := Option.some.inj h
 subst hh
 refine NWp.ret ?_
 show FQ _ _ _ _
 exact FQ.mk1 (.inr rfl) (res_t (v := vb r1) rfl rfl) (RV.d trivial)

theorem c_packet_With {a0 : (A8 Int)} {a1 : Int} {a2 : Int} {r : (A8 Int)} (h : packet_With a0 a1 a2 = some r) : PCall Try.prog 126 [eA8 (D.int .u16) a0, .int .i64 a1, .int .u16 a2] (eA8 (D.int .u16) r) := by
 refine PCall.introN ok126 (show 3 ≤ 13 by decide) ?_
 refine NWp.norm (s0 := ⟨tab [(0, .d (eA8 (D.int .u16) a0)), (1, vi a1), (2, vh a2)], stab [], 0⟩) (nr []) ?_
 refine NWp.opsJ ⟨tab [(1, vi a1), (2, vh a2), (3, .ptr 0 0 0), (6, .ptr 1 0 0)], stab [(0, .var [vh a0.a0, vh a0.a1, vh a0.a2, vh a0.a3, vh a0.a4, vh a0.a5, vh a0.a6, vh a0.a7]), (1, bv0)], 2⟩ ?_ ?_
 ·
  refine step (v := .ptr 0 0 0) (σ' := (upd (stab []) 0 (some (.var [vh a0.a0, vh a0.a1, vh a0.a2, vh a0.a3, vh a0.a4, vh a0.a5, vh a0.a6, vh a0.a7])))) (n' := 1) rfl ?_
  refine step (v := .ptr 1 0 0) (σ' := (upd (upd (stab []) 0 (some (.var [vh a0.a0, vh a0.a1, vh a0.a2, vh a0.a3, vh a0.a4, vh a0.a5, vh a0.a6, vh a0.a7]))) 1 (some (bv0)))) (n' := 2) rfl ?_
  exact nR [0, 1]
 obtain ⟨y5, hv, h⟩ := bindE h
 refine NWp.seqN ⟨tab [(3, .ptr 0 0 0), (6, .ptr 1 0 0)], stab [(0, .var [vh y5.a0, vh y5.a1, vh y5.a2, vh y5.a3, vh y5.a4, vh y5.a5, vh y5.a6, vh y5.a7]), (1, bv0)], 2⟩ ?_ ?_
 ·
  replace h := hv
  obtain ⟨r1, hr1, h⟩ := bindE h
  refine NWp.opsJ ⟨tab [(1, vi a1), (2, vh a2), (3, .ptr 0 0 0), (6, .ptr 1 0 0), (8, vb r1)], stab [(0, .var [vh a0.a0, vh a0.a1, vh a0.a2, vh a0.a3, vh a0.a4, vh a0.a5, vh a0.a6, vh a0.a7]), (1, bv0)], 2⟩ ?_ ?_
  ·
   refine q1 _ ?_
   refine stepC (r := .bool r1) (ArgsOk.dt ArgsOk.nil') (c_packet_is hr1) ?_
   exact nR [0, 1]
  by_cases hc2 : r1 = true
  ·
   replace h := iteT hc2 h
   refine NWp.condT (t := r1) rfl hc2 ?_
   obtain ⟨x3, hx3, h⟩ := bindE h
   obtain ⟨x4, hx4, h⟩ := bindE h
   have hh := Option.some.inj h
   subst hh
   refine NWp.opsE ⟨tab [(3, .ptr 0 0 0), (6, .ptr 1 0 0)], stab [(0, .var [vh x4.a0, vh x4.a1, vh x4.a2, vh x4.a3, vh x4.a4, vh x4.a5, vh x4.a6, vh x4.a7]), (1, bv0)], 2⟩ ?_ ?_
   ·
    iterate 2 refine q1 _ ?_
    refine step (v := .ptr 0 0 (0 + a1.toNat * 1)) (st_iaddrAP (xs := a0.l) hx3 rfl rfl rfl) ?_
    refine step (v := V.undef) (σ' := (upd (stab [(0, .var [vh a0.a0, vh a0.a1, vh a0.a2, vh a0.a3, vh a0.a4, vh a0.a5, vh a0.a6, vh a0.a7]), (1, bv0)]) 0 (some (.var [vh x4.a0, vh x4.a1, vh x4.a2, vh x4.a3, vh x4.a4, vh x4.a5, vh x4.a6, vh x4.a7])))) (n' := 2) (st_storeA (e := (D.int .u16)) (xs := a0.l) (xs' := x4.l) (pre := []) (post := []) (A8.put_l hx4) rfl rfl rfl rfl rfl rfl) ?_
    exact nR [0, 1]
   exact And.intro rfl rfl
  ·
   replace h := iteF hc2 h
   refine NWp.condF (t := r1) rfl hc2 ?_
   have hh := Option.some.inj h
   subst hh
   refine NWp.norm (s0 := ⟨tab [(3, .ptr 0 0 0), (6, .ptr 1 0 0)], stab [(0, .var [vh a0.a0, vh a0.a1, vh a0.a2, vh a0.a3, vh a0.a4, vh a0.a5, vh a0.a6, vh a0.a7]), (1, bv0)], 2⟩) (nr [0, 1]) ?_
   refine NWp.skip ?_
   exact And.intro rfl rfl
 refine NWp.opsJ ⟨tab [(6, .ptr 0 0 0)], stab [(0, .var [vh y5.a0, vh y5.a1, vh y5.a2, vh y5.a3, vh y5.a4, vh y5.a5, vh y5.a6, vh y5.a7])], 1⟩ ?_ ?_
 ·
  refine step (v := .d (eA8 (D.int .u16) y5)) (st_ldV (ds := [.int .u16 y5.a0, .int .u16 y5.a1, .int .u16 y5.a2, .int .u16 y5.a3, .int .u16 y5.a4, .int .u16 y5.a5, .int .u16 y5.a6, .int .u16 y5.a7]) rfl rfl (show 8 ≤ 8 by decide) rfl) ?_
  refine step (v := V.undef) (σ' := (upd (stab [(0, .var [vh y5.a0, vh y5.a1, vh y5.a2, vh y5.a3, vh y5.a4, vh y5.a5, vh y5.a6, vh y5.a7]), (1, bv0)]) 1 (some (.var [vh y5.a0, vh y5.a1, vh y5.a2, vh y5.a3, vh y5.a4, vh y5.a5, vh y5.a6, vh y5.a7])))) (n' := 2) rfl ?_
  exact nR [1]
 have hh := Option.some.inj h
 subst hh
 refine NWp.ret ?_
 show FQ _ _ _ _
 exact FQ.mk1 (.inr rfl) (res_cell (ds := [.int .u16 y5.a0, .int .u16 y5.a1, .int .u16 y5.a2, .int .u16 y5.a3, .int .u16 y5.a4, .int .u16 y5.a5, .int .u16 y5.a6, .int .u16 y5.a7]) rfl rfl (show 8 ≤ 8 by decide) rfl rfl) (RV.d trivial)

theorem c_packet_Do {a0 : (A8 Int)} {a1 : (List api_Pair)} {r : (A8 Int)} (h : packet_Do a0 a1 = some r) : PCall Try.prog 117 [eA8 (D.int .u16) a0, eL (some 2) eapi_Pair a1] (eA8 (D.int .u16) r) := by
 refine PCall.introN ok117 (show 2 ≤ 21 by decide) ?_
 refine NWp.norm (s0 := ⟨tab [(0, .d (eA8 (D.int .u16) a0)), (1, vl0 a1)], stab [], 0⟩) (nr []) ?_
 refine NWp.opsJ ⟨tab [(1, vl0 a1), (2, .ptr 0 0 0), (4, .ptr 1 0 0)], stab [(0, .var [vh a0.a0, vh a0.a1, vh a0.a2, vh a0.a3, vh a0.a4, vh a0.a5, vh a0.a6, vh a0.a7]), (1, bv0)], 2⟩ ?_ ?_
 ·
  refine step (v := .ptr 0 0 0) (σ' := (upd (stab []) 0 (some (.var [vh a0.a0, vh a0.a1, vh a0.a2, vh a0.a3, vh a0.a4, vh a0.a5, vh a0.a6, vh a0.a7])))) (n' := 1) rfl ?_
  refine step (v := .ptr 1 0 0) (σ' := (upd (upd (stab []) 0 (some (.var [vh a0.a0, vh a0.a1, vh a0.a2, vh a0.a3, vh a0.a4, vh a0.a5, vh a0.a6, vh a0.a7]))) 1 (some (bv0)))) (n' := 2) rfl ?_
  exact nR [0, 1]
 refine NWp.seq ?_
 refine NWp.opsJ ⟨tab [(2, .ptr 0 0 0), (4, .ptr 1 0 0), (7, vl0 a1), (8, vi (a1.length : Int)), (9, vi 0)], stab [(0, .var [vh a0.a0, vh a0.a1, vh a0.a2, vh a0.a3, vh a0.a4, vh a0.a5, vh a0.a6, vh a0.a7]), (1, bv0)], 2⟩ ?_ ?_
 ·
  refine q1 _ ?_
  refine step (v := vi (a1.length : Int)) (st_len (xs := a1) (e := eapi_Pair) rfl) ?_
  refine q1 _ ?_
  exact nR [0, 1]
 obtain ⟨z10, hl, h⟩ := bindE h
 refine NWp.block ?_
 refine loop_forO (cntU (a1.length : Int)) (fun (i1 : Int) (qq : (A8 Int)) => ⟨tab [(2, .ptr 0 0 0), (4, .ptr 1 0 0), (7, vl0 a1), (8, vi (a1.length : Int)), (9, vi i1)], stab [(0, .var [vh qq.a0, vh qq.a1, vh qq.a2, vh qq.a3, vh qq.a4, vh qq.a5, vh qq.a6, vh qq.a7]), (1, bv0)], 2⟩) 0 (fun (qq : (A8 Int)) => ⟨tab [(2, .ptr 0 0 0), (4, .ptr 1 0 0)], stab [(0, .var [vh qq.a0, vh qq.a1, vh qq.a2, vh qq.a3, vh qq.a4, vh qq.a5, vh qq.a6, vh qq.a7]), (1, bv0)], 2⟩) Low low_step hl (by unfold Low; omega) ?_ ?_ ?_
 ·
  rintro i1 y2 xr7 hinv5 hgo4 h
  show NWp _ _ _ _ _ ⟨tab [(2, .ptr 0 0 0), (4, .ptr 1 0 0), (7, vl0 a1), (8, vi (a1.length : Int)), (9, vi i1)], stab [(0, .var [vh y2.a0, vh y2.a1, vh y2.a2, vh y2.a3, vh y2.a4, vh y2.a5, vh y2.a6, vh y2.a7]), (1, bv0)], 2⟩
  have hc6 : decide (i1 < (a1.length : Int)) = true := decide_eq_true hgo4
  refine NWp.opsJ ⟨tab [(2, .ptr 0 0 0), (4, .ptr 1 0 0), (7, vl0 a1), (8, vi (a1.length : Int)), (9, vi i1), (10, vb (decide (i1 < (a1.length : Int))))], stab [(0, .var [vh y2.a0, vh y2.a1, vh y2.a2, vh y2.a3, vh y2.a4, vh y2.a5, vh y2.a6, vh y2.a7]), (1, bv0)], 2⟩ ?_ ?_
  ·
   refine q1 _ ?_
   exact nR [0, 1]
  refine NWp.rng 8 rfl fun hB3 => ?_
  refine NWp.seq ?_
  refine NWp.condT (t := decide (i1 < (a1.length : Int))) rfl hc6 ?_
  refine NWp.skip ?_
  refine NWp.seq ?_
  refine NWp.block ?_
  obtain ⟨x8, hx8, h⟩ := bindE h
  refine NWp.opsJ ⟨tab [(2, .ptr 0 0 0), (4, .ptr 1 0 0), (6, .ptr 2 0 0), (7, vl0 a1), (8, vi (a1.length : Int)), (9, vi i1)], stab [(0, .var [vh y2.a0, vh y2.a1, vh y2.a2, vh y2.a3, vh y2.a4, vh y2.a5, vh y2.a6, vh y2.a7]), (1, bv0), (2, .var [vi x8.F, vh x8.N])], 3⟩ ?_ ?_
  ·
   refine step (v := vp1 x8) (st_iaddr (xs := a1) (e := eapi_Pair) hx8 rfl rfl) ?_
   refine q1 _ ?_
   refine step (v := .ptr 2 0 0) (σ' := (upd (stab [(0, .var [vh y2.a0, vh y2.a1, vh y2.a2, vh y2.a3, vh y2.a4, vh y2.a5, vh y2.a6, vh y2.a7]), (1, bv0)]) 2 (some (.var [vi 0, vh 0])))) (n' := 3) rfl ?_
   refine step (v := V.undef) (σ' := (upd (upd (stab [(0, .var [vh y2.a0, vh y2.a1, vh y2.a2, vh y2.a3, vh y2.a4, vh y2.a5, vh y2.a6, vh y2.a7]), (1, bv0)]) 2 (some (.var [vi 0, vh 0]))) 2 (some (.var [vi x8.F, vh x8.N])))) (n' := 3) rfl ?_
   exact nR [0, 1, 2]
  obtain ⟨r9, hr9, h⟩ := bindE h
  refine NWp.opsE ⟨tab [(2, .ptr 0 0 0), (4, .ptr 1 0 0), (7, vl0 a1), (8, vi (a1.length : Int)), (9, vi i1)], stab [(0, .var [vh r9.a0, vh r9.a1, vh r9.a2, vh r9.a3, vh r9.a4, vh r9.a5, vh r9.a6, vh r9.a7]), (1, bv0)], 2⟩ ?_ ?_
  ·
   refine step (v := .d (eA8 (D.int .u16) y2)) (st_ldV (ds := [.int .u16 y2.a0, .int .u16 y2.a1, .int .u16 y2.a2, .int .u16 y2.a3, .int .u16 y2.a4, .int .u16 y2.a5, .int .u16 y2.a6, .int .u16 y2.a7]) rfl rfl (show 8 ≤ 8 by decide) rfl) ?_
   iterate 4 refine q1 _ ?_
   refine stepC (r := eA8 (D.int .u16) r9) (ArgsOk.dt (ArgsOk.dt (ArgsOk.dt ArgsOk.nil'))) (c_packet_With hr9) ?_
   refine step (v := V.undef) (σ' := (upd (stab [(0, .var [vh y2.a0, vh y2.a1, vh y2.a2, vh y2.a3, vh y2.a4, vh y2.a5, vh y2.a6, vh y2.a7]), (1, bv0), (2, .var [vi x8.F, vh x8.N])]) 0 (some (.var [vh r9.a0, vh r9.a1, vh r9.a2, vh r9.a3, vh r9.a4, vh r9.a5, vh r9.a6, vh r9.a7])))) (n' := 3) rfl ?_
   exact nR [0, 1]
  have hh := Option.some.inj h
  subst hh
  refine NWp.opsE ⟨tab [(2, .ptr 0 0 0), (4, .ptr 1 0 0), (7, vl0 a1), (8, vi (a1.length : Int)), (9, vi (i1 + 1))], stab [(0, .var [vh r9.a0, vh r9.a1, vh r9.a2, vh r9.a3, vh r9.a4, vh r9.a5, vh r9.a6, vh r9.a7]), (1, bv0)], 2⟩ ?_ ?_
  ·
   refine step (v := vi (i1 + 1)) (st_inc (inc_ok hinv5 hgo4 hB3) rfl rfl) ?_
   refine q1 _ ?_
   exact nR [0, 1]
  exact And.intro rfl rfl
 ·
  rintro i1 y2 hinv5 hgo4
  show NWp _ _ _ _ _ ⟨tab [(2, .ptr 0 0 0), (4, .ptr 1 0 0), (7, vl0 a1), (8, vi (a1.length : Int)), (9, vi i1)], stab [(0, .var [vh y2.a0, vh y2.a1, vh y2.a2, vh y2.a3, vh y2.a4, vh y2.a5, vh y2.a6, vh y2.a7]), (1, bv0)], 2⟩
  have hc6 : ¬ (decide (i1 < (a1.length : Int)) = true) := fun hq => hgo4 (of_decide_eq_true hq)
  refine NWp.opsJ ⟨tab [(2, .ptr 0 0 0), (4, .ptr 1 0 0), (7, vl0 a1), (8, vi (a1.length : Int)), (9, vi i1), (10, vb (decide (i1 < (a1.length : Int))))], stab [(0, .var [vh y2.a0, vh y2.a1, vh y2.a2, vh y2.a3, vh y2.a4, vh y2.a5, vh y2.a6, vh y2.a7]), (1, bv0)], 2⟩ ?_ ?_
  ·
   refine q1 _ ?_
   exact nR [0, 1]
  refine NWp.seq ?_
  refine NWp.condF (t := decide (i1 < (a1.length : Int))) rfl hc6 ?_
  refine NWp.norm (s0 := ⟨tab [(2, .ptr 0 0 0), (4, .ptr 1 0 0)], stab [(0, .var [vh y2.a0, vh y2.a1, vh y2.a2, vh y2.a3, vh y2.a4, vh y2.a5, vh y2.a6, vh y2.a7]), (1, bv0)], 2⟩) (nr [0, 1]) ?_
  refine NWp.exit ?_
  exact And.intro rfl rfl
 refine NWp.opsJ ⟨tab [(4, .ptr 0 0 0)], stab [(0, .var [vh z10.a0, vh z10.a1, vh z10.a2, vh z10.a3, vh z10.a4, vh z10.a5, vh z10.a6, vh z10.a7])], 1⟩ ?_ ?_
 ·
  refine step (v := .d (eA8 (D.int .u16) z10)) (st_ldV (ds := [.int .u16 z10.a0, .int .u16 z10.a1, .int .u16 z10.a2, .int .u16 z10.a3, .int .u16 z10.a4, .int .u16 z10.a5, .int .u16 z10.a6, .int .u16 z10.a7]) rfl rfl (show 8 ≤ 8 by decide) rfl) ?_
  refine step (v := V.undef) (σ' := (upd (stab [(0, .var [vh z10.a0, vh z10.a1, vh z10.a2, vh z10.a3, vh z10.a4, vh z10.a5, vh z10.a6, vh z10.a7]), (1, bv0)]) 1 (some (.var [vh z10.a0, vh z10.a1, vh z10.a2, vh z10.a3, vh z10.a4, vh z10.a5, vh z10.a6, vh z10.a7])))) (n' := 2) rfl ?_
  exact nR [1]
 have hh := Option.some.inj h
 subst hh
 refine NWp.ret ?_
 show FQ _ _ _ _
 exact FQ.mk1 (.inr rfl) (res_cell (ds := [.int .u16 z10.a0, .int .u16 z10.a1, .int .u16 z10.a2, .int .u16 z10.a3, .int .u16 z10.a4, .int .u16 z10.a5, .int .u16 z10.a6, .int .u16 z10.a7]) rfl rfl (show 8 ≤ 8 by decide) rfl rfl) (RV.d trivial)

theorem c_slices_Clone_api_Packet {a0 : List (A8 Int)} {r : List (A8 Int)} (h : slices_Clone_api_Packet a0 = some r) : SCall Try.prog 127 [.d (.vec (some 8) (List.map (eA8 (D.int .u16)) a0))] (stab []) 0 (.loc 0 0 r.length) (stab [(0, .lst true (some 8) (List.map (eA8 (D.int .u16)) r))]) 1 := by
 cases a0 with
 | nil =>
  refine SCall.empty ?_ ?_
  ·
   have h : some ([] : List (A8 Int)) = some r := by simpa [slices_Clone_api_Packet, gapp] using h
   refine SCall.introN (bl := []) (bl' := [(0, .lst true (some 8) (List.map (eA8 (D.int .u16)) r))]) ok127 (show 1 ≤ 8 by decide) rfl ?_
   refine NWp.norm (s0 := ⟨tab [(0, .d (.nils))], stab [], 0⟩) (nr []) ?_
   refine NWp.opsJ ⟨tab [(0, .d (.nils))], stab [], 0⟩ ?_ ?_
   ·
    refine q1 _ ?_
    exact nR []
   refine NWp.seq ?_
   refine NWp.opsJ ⟨tab [(0, .d (.nils)), (4, vb true)], stab [], 0⟩ ?_ ?_
   ·
    iterate 2 refine q1 _ ?_
    exact nR []
   refine NWp.condT (t := true) rfl rfl ?_
   refine NWp.opsJ ⟨tab [(2, .d (.nils))], stab [], 0⟩ ?_ ?_
   ·
    refine q1 _ ?_
    exact nR []
   have hh := Option.some.inj h
   subst hh
   refine NWp.norm (s0 := ⟨tab [(2, .loc 0 0 (([] : List (A8 Int)).length))], stab [(0, .lst true (some 8) (List.map (eA8 (D.int .u16)) ([] : List (A8 Int))))], 1⟩) (Norm.trans (s2 := ⟨tab [(2, .loc 0 0 (([] : List (A8 Int)).length))], stab [(0, .lst true (some 8) (List.map (eA8 (D.int .u16)) ([] : List (A8 Int))))], 1⟩) (Norm.nil1 2 true (some 8) rfl) (nr [0])) ?_
   refine NWp.ret ?_
   exact ⟨.inr rfl, _, rfl, rfl, AllS.sub ⟨rfl, trivial⟩, rfl⟩
  ·
   refine SCall.introN (bl := []) (bl' := [(0, .lst true (some 8) (List.map (eA8 (D.int .u16)) r))]) ok127 (show 1 ≤ 8 by decide) rfl ?_
   refine NWp.norm (s0 := ⟨tab [(0, .mapr 0)], stab [], 0⟩) (nm [] ⟨.mp _, trivial⟩ trivial) ?_
   refine NWp.opsJ ⟨tab [(0, .mapr 0)], stab [], 0⟩ ?_ ?_
   ·
    refine q1 _ ?_
    exact RunOps.nil' (nm [] ⟨.mp _, trivial⟩ trivial)
   refine NWp.seq ?_
   refine NWp.opsJ ⟨tab [(0, .d (eL (some 8) (eA8 (D.int .u16)) ([] : List (A8 Int)))), (4, vb false)], stab [], 0⟩ ?_ ?_
   ·
    iterate 2 refine q1 _ ?_
    exact RunOps.nil' (nm [] ⟨.nne _ _, .d _, trivial⟩ trivial)
   refine NWp.condF (t := false) rfl (by decide) ?_
   refine NWp.skip ?_
   obtain ⟨l1, hl1, h⟩ := bindE h
   refine NWp.opsJ ⟨tab [(2, .loc 0 0 l1.length)], stab [(0, .lst true (some 8) (List.map (eA8 (D.int .u16)) l1))], 1⟩ ?_ ?_
   ·
    refine step (v := .loc 0 0 (([] : List (A8 Int)).length)) (σ' := (upd (stab []) 0 (some (.lst true (some 8) (List.map (eA8 (D.int .u16)) ([] : List (A8 Int))))))) (n' := 1) rfl ?_
    refine q1 _ ?_
    refine step (v := .loc 1 0 l1.length) (σ' := (upd (upd (upd (stab []) 0 (some (.lst true (some 8) (List.map (eA8 (D.int .u16)) ([] : List (A8 Int)))))) 0 none) 1 (some (.lst true (some 8) (List.map (eA8 (D.int .u16)) l1))))) (n' := 2) (st_app (xs := ([] : List (A8 Int))) (ys := ([] : List (A8 Int))) (e := (eA8 (D.int .u16))) hl1 rfl rfl rfl (src_v (xs := ([] : List (A8 Int))) (e := (eA8 (D.int .u16))) rfl)) ?_
    refine q1 _ ?_
    exact nR [1]
   have hh := Option.some.inj h
   subst hh
   refine NWp.ret ?_
   exact ⟨.inr rfl, _, rfl, rfl, AllS.sub ⟨rfl, trivial⟩, rfl⟩
 | cons x xs =>
  refine SCall.introN (bl := []) (bl' := [(0, .lst true (some 8) (List.map (eA8 (D.int .u16)) r))]) ok127 (show 1 ≤ 8 by decide) rfl ?_
  refine NWp.norm (s0 := ⟨tab [(0, .d (eL (some 8) (eA8 (D.int .u16)) (x :: xs)))], stab [], 0⟩) (nr []) ?_
  refine NWp.opsJ ⟨tab [(0, .d (eL (some 8) (eA8 (D.int .u16)) (x :: xs)))], stab [], 0⟩ ?_ ?_
  ·
   refine q1 _ ?_
   exact nR []
  refine NWp.seq ?_
  refine NWp.opsJ ⟨tab [(0, .d (eL (some 8) (eA8 (D.int .u16)) (x :: xs))), (4, vb false)], stab [], 0⟩ ?_ ?_
  ·
   iterate 2 refine q1 _ ?_
   exact nR []
  refine NWp.condF (t := false) rfl (by decide) ?_
  refine NWp.skip ?_
  obtain ⟨l1, hl1, h⟩ := bindE h
  refine NWp.opsJ ⟨tab [(2, .loc 0 0 l1.length)], stab [(0, .lst true (some 8) (List.map (eA8 (D.int .u16)) l1))], 1⟩ ?_ ?_
  ·
   refine step (v := .loc 0 0 (([] : List (A8 Int)).length)) (σ' := (upd (stab []) 0 (some (.lst true (some 8) (List.map (eA8 (D.int .u16)) ([] : List (A8 Int))))))) (n' := 1) rfl ?_
   refine q1 _ ?_
   refine step (v := .loc 1 0 l1.length) (σ' := (upd (upd (upd (stab []) 0 (some (.lst true (some 8) (List.map (eA8 (D.int .u16)) ([] : List (A8 Int)))))) 0 none) 1 (some (.lst true (some 8) (List.map (eA8 (D.int .u16)) l1))))) (n' := 2) (st_app (xs := ([] : List (A8 Int))) (ys := (x :: xs)) (e := (eA8 (D.int .u16))) hl1 rfl rfl rfl (src_v (xs := (x :: xs)) (e := (eA8 (D.int .u16))) rfl)) ?_
   refine q1 _ ?_
   exact nR [1]
  have hh := Option.some.inj h
  subst hh
  refine NWp.ret ?_
  exact ⟨.inr rfl, _, rfl, rfl, AllS.sub ⟨rfl, trivial⟩, rfl⟩

theorem c_math_bits_Len64 {a0 : Int} {r : Int} (h : math_bits_Len64 a0 = some r) : PCall Try.prog 113 [.int .u64 a0] (.int .i64 r) := by
 refine PCall.introN ok113 (show 1 ≤ 25 by decide) ?_
 refine NWp.norm (s0 := ⟨tab [(0, .d (.int .u64 a0))], stab [], 0⟩) (nr []) ?_
 refine NWp.opsJ ⟨tab [(0, .d (.int .u64 a0)), (2, vi 0)], stab [], 0⟩ ?_ ?_
 ·
  refine q1 _ ?_
  exact nR []
 obtain ⟨q4, hv, h⟩ := bindE h
 obtain ⟨y2, y3⟩ := q4
 refine NWp.seqN ⟨tab [(0, .d (.int .u64 y2)), (2, vi y3)], stab [], 0⟩ ?_ ?_
 ·
  replace h := hv
  refine NWp.opsJ ⟨tab [(0, .d (.int .u64 a0)), (2, vi 0), (4, vb (decide (a0 ≥ 4294967296)))], stab [], 0⟩ ?_ ?_
  ·
   iterate 2 refine q1 _ ?_
   exact nR []
  by_cases hc1 : decide (a0 ≥ 4294967296) = true
  ·
   replace h := iteT hc1 h
   refine NWp.condT (t := decide (a0 ≥ 4294967296)) rfl hc1 ?_
   refine NWp.opsJ ⟨tab [(0, .d (.int .u64 (a0.fdiv (2 ^ 32))))], stab [], 0⟩ ?_ ?_
   ·
    iterate 3 refine q1 _ ?_
    exact nR []
   have hh := Option.some.inj h
   obtain ⟨he0, ht0⟩ := Prod.mk.inj hh
   subst he0
   subst ht0
   refine NWp.opsE ⟨tab [(0, .d (.int .u64 (a0.fdiv (2 ^ 32)))), (2, vi 32)], stab [], 0⟩ ?_ ?_
   ·
    refine q1 _ ?_
    exact nR []
   exact And.intro rfl rfl
  ·
   replace h := iteF hc1 h
   refine NWp.condF (t := decide (a0 ≥ 4294967296)) rfl hc1 ?_
   have hh := Option.some.inj h
   obtain ⟨he0, ht0⟩ := Prod.mk.inj hh
   subst he0
   subst ht0
   refine NWp.norm (s0 := ⟨tab [(0, .d (.int .u64 a0)), (2, vi 0)], stab [], 0⟩) (nr []) ?_
   refine NWp.skip ?_
   exact And.intro rfl rfl
 obtain ⟨q8, hv, h⟩ := bindE h
 obtain ⟨y6, y7⟩ := q8
 refine NWp.seqN ⟨tab [(0, .d (.int .u64 y6)), (2, vi y7)], stab [], 0⟩ ?_ ?_
 ·
  replace h := hv
  refine NWp.opsJ ⟨tab [(0, .d (.int .u64 y2)), (2, vi y3), (8, vb (decide (y2 ≥ 65536)))], stab [], 0⟩ ?_ ?_
  ·
   iterate 2 refine q1 _ ?_
   exact nR []
  by_cases hc5 : decide (y2 ≥ 65536) = true
  ·
   replace h := iteT hc5 h
   refine NWp.condT (t := decide (y2 ≥ 65536)) rfl hc5 ?_
   refine NWp.opsJ ⟨tab [(0, .d (.int .u64 (y2.fdiv (2 ^ 16)))), (2, vi y3)], stab [], 0⟩ ?_ ?_
   ·
    iterate 3 refine q1 _ ?_
    exact nR []
   have hh := Option.some.inj h
   obtain ⟨he0, ht0⟩ := Prod.mk.inj hh
   subst he0
   subst ht0
   refine NWp.opsE ⟨tab [(0, .d (.int .u64 (y2.fdiv (2 ^ 16)))), (2, vi (IntKind.i64.wrap (y3 + 16)))], stab [], 0⟩ ?_ ?_
   ·
    iterate 3 refine q1 _ ?_
    exact nR []
   exact And.intro rfl rfl
  ·
   replace h := iteF hc5 h
   refine NWp.condF (t := decide (y2 ≥ 65536)) rfl hc5 ?_
   have hh := Option.some.inj h
   obtain ⟨he0, ht0⟩ := Prod.mk.inj hh
   subst he0
   subst ht0
   refine NWp.norm (s0 := ⟨tab [(0, .d (.int .u64 y2)), (2, vi y3)], stab [], 0⟩) (nr []) ?_
   refine NWp.skip ?_
   exact And.intro rfl rfl
 obtain ⟨q12, hv, h⟩ := bindE h
 obtain ⟨y10, y11⟩ := q12
 refine NWp.seqN ⟨tab [(0, .d (.int .u64 y10)), (2, vi y11)], stab [], 0⟩ ?_ ?_
 ·
  replace h := hv
  refine NWp.opsJ ⟨tab [(0, .d (.int .u64 y6)), (2, vi y7), (14, vb (decide (y6 ≥ 256)))], stab [], 0⟩ ?_ ?_
  ·
   iterate 2 refine q1 _ ?_
   exact nR []
  by_cases hc9 : decide (y6 ≥ 256) = true
  ·
   replace h := iteT hc9 h
   refine NWp.condT (t := decide (y6 ≥ 256)) rfl hc9 ?_
   refine NWp.opsJ ⟨tab [(0, .d (.int .u64 (y6.fdiv (2 ^ 8)))), (2, vi y7)], stab [], 0⟩ ?_ ?_
   ·
    iterate 3 refine q1 _ ?_
    exact nR []
   have hh := Option.some.inj h
   obtain ⟨he0, ht0⟩ := Prod.mk.inj hh
   subst he0
   subst ht0
   refine NWp.opsE ⟨tab [(0, .d (.int .u64 (y6.fdiv (2 ^ 8)))), (2, vi (IntKind.i64.wrap (y7 + 8)))], stab [], 0⟩ ?_ ?_
   ·
    iterate 3 refine q1 _ ?_
    exact nR []
   exact And.intro rfl rfl
  ·
   replace h := iteF hc9 h
   refine NWp.condF (t := decide (y6 ≥ 256)) rfl hc9 ?_
   have hh := Option.some.inj h
   obtain ⟨he0, ht0⟩ := Prod.mk.inj hh
   subst he0
   subst ht0
   refine NWp.norm (s0 := ⟨tab [(0, .d (.int .u64 y6)), (2, vi y7)], stab [], 0⟩) (nr []) ?_
   refine NWp.skip ?_
   exact And.intro rfl rfl
 obtain ⟨b13, hb13, h⟩ := bindE h
 refine NWp.opsJ ⟨tab [(2, vi (IntKind.i64.wrap (y11 + (IntKind.i64.wrap b13))))], stab [], 0⟩ ?_ ?_
 ·
  iterate 3 refine q1 _ ?_
  refine step (v := v8 b13) (st_idxS hb13 rfl rfl) ?_
  iterate 3 refine q1 _ ?_
  exact nR []
 have hh := Option.some.inj h
 subst hh
 refine NWp.ret ?_
 show FQ _ _ _ _
 exact FQ.mk1 (.inr rfl) (res_t (v := vi (IntKind.i64.wrap (y11 + (IntKind.i64.wrap b13)))) rfl rfl) (RV.d trivial)

theorem c_math_bits_Len {a0 : Int} {r : Int} (h : math_bits_Len a0 = some r) : PCall Try.prog 97 [.int .u64 a0] (.int .i64 r) := by
 refine PCall.introN ok97 (show 1 ≤ 8 by decide) ?_
 refine NWp.norm (s0 := ⟨tab [(0, .d (.int .u64 a0))], stab [], 0⟩) (nr []) ?_
 refine NWp.opsJ ⟨tab [(0, .d (.int .u64 a0))], stab [], 0⟩ ?_ ?_
 ·
  refine q1 _ ?_
  exact nR []
 refine NWp.seq ?_
 refine NWp.condF (t := false) rfl (by decide) ?_
 refine NWp.skip ?_
 obtain ⟨r1, hr1, h⟩ := bindE h
 refine NWp.opsJ ⟨tab [(2, vi r1)], stab [], 0⟩ ?_ ?_
 ·
  refine q1 _ ?_
  refine stepC (r := .int .i64 r1) (ArgsOk.dt ArgsOk.nil') (c_math_bits_Len64 hr1) ?_
  refine q1 _ ?_
  exact nR []
 have hh := Option.some.inj h
 subst hh
 refine NWp.ret ?_
 show FQ _ _ _ _
 exact FQ.mk1 (.inr rfl) (res_t (v := vi r1) rfl rfl) (RV.d trivial)

theorem c_slices_insertionSortCmpFunc_api_Packet {a0 : (List (A8 Int))} {a1 : Int} {a2 : Int} {a3 : ((A8 Int) → (A8 Int) → Option Int)} {g_a3 : D} (hf_a3 : Fn2 Try.prog g_a3 (eA8 (D.int .u16)) (eA8 (D.int .u16)) (D.int .i64) a3) {r : (List (A8 Int))} (h : slices_insertionSortCmpFunc_api_Packet a0 a1 a2 a3 = some r) : SCall Try.prog 134 [.loc 0 0 a0.length, vi a1, vi a2, .d g_a3] (stab [(0, .lst true (some 8) (List.map (eA8 (D.int .u16)) a0))]) 1 (.d (.tup [])) (stab [(0, .lst true (some 8) (List.map (eA8 (D.int .u16)) r))]) 1 := by
 obtain ⟨fn_a3, cap_a3, rfl, hc_a3⟩ := hf_a3
 refine SCall.introN (bl := [(0, .lst true (some 8) (List.map (eA8 (D.int .u16)) a0))]) (bl' := [(0, .lst true (some 8) (List.map (eA8 (D.int .u16)) r))]) ok134 (show 4 ≤ 53 by decide) rfl ?_
 refine NWp.norm (s0 := ⟨tab [(0, .loc 0 0 a0.length), (1, vi a1), (2, vi a2), (3, .d (.func fn_a3 cap_a3))], stab [(0, .lst true (some 8) (List.map (eA8 (D.int .u16)) a0))], 1⟩) (nr [0]) ?_
 refine NWp.opsJ ⟨tab [(0, .loc 0 0 a0.length), (1, vi a1), (2, vi a2), (3, .d (.func fn_a3 cap_a3)), (8, vi (IntKind.i64.wrap (a1 + 1)))], stab [(0, .lst true (some 8) (List.map (eA8 (D.int .u16)) a0))], 1⟩ ?_ ?_
 ·
  iterate 3 refine q1 _ ?_
  exact nR [0]
 obtain ⟨z26, hl, h⟩ := bindE h
 refine NWp.rng 8 rfl fun hA28 => ?_
 refine NWp.block ?_
 refine loop_forO (cntU a2) (fun (i2 : Int) (qq : (List (A8 Int))) => ⟨tab [(0, .loc 0 0 qq.length), (1, vi a1), (2, vi a2), (3, .d (.func fn_a3 cap_a3)), (8, vi i2)], stab [(0, .lst true (some 8) (List.map (eA8 (D.int .u16)) qq))], 1⟩) 0 (fun (qq : (List (A8 Int))) => ⟨tab [], stab [(0, .lst true (some 8) (List.map (eA8 (D.int .u16)) qq))], 1⟩) Low low_step hl (low_of hA28) ?_ ?_ ?_
 ·
  rintro i2 l1 xr7 hinv5 hgo4 h
  show NWp _ _ _ _ _ ⟨tab [(0, .loc 0 0 l1.length), (1, vi a1), (2, vi a2), (3, .d (.func fn_a3 cap_a3)), (8, vi i2)], stab [(0, .lst true (some 8) (List.map (eA8 (D.int .u16)) l1))], 1⟩
  have hc6 : decide (i2 < a2) = true := decide_eq_true hgo4
  refine NWp.seq ?_
  refine NWp.opsJ ⟨tab [(0, .loc 0 0 l1.length), (1, vi a1), (2, vi a2), (3, .d (.func fn_a3 cap_a3)), (8, vi i2), (13, vi a2), (14, vb (decide (i2 < a2)))], stab [(0, .lst true (some 8) (List.map (eA8 (D.int .u16)) l1))], 1⟩ ?_ ?_
  ·
   iterate 3 refine q1 _ ?_
   exact nR [0]
  refine NWp.rng 13 rfl fun hB3 => ?_
  refine NWp.condT (t := decide (i2 < a2)) rfl hc6 ?_
  refine NWp.skip ?_
  refine NWp.seq ?_
  refine NWp.block ?_
  refine NWp.opsJ ⟨tab [(0, .loc 0 0 l1.length), (1, vi a1), (2, vi a2), (3, .d (.func fn_a3 cap_a3)), (8, vi i2), (9, vi i2)], stab [(0, .lst true (some 8) (List.map (eA8 (D.int .u16)) l1))], 1⟩ ?_ ?_
  ·
   iterate 2 refine q1 _ ?_
   exact nR [0]
  obtain ⟨q25, hl, h⟩ := bindE h
  obtain ⟨z23, z24⟩ := q25
  refine NWp.block ?_
  refine loop_whK (fun (qq : ((List (A8 Int)) × Int)) => ⟨tab [(0, .loc 0 0 qq.1.length), (1, vi a1), (2, vi a2), (3, .d (.func fn_a3 cap_a3)), (8, vi i2), (9, vi qq.2)], stab [(0, .lst true (some 8) (List.map (eA8 (D.int .u16)) qq.1))], 1⟩) 2 (fun (qq : ((List (A8 Int)) × Int)) => ⟨tab [(0, .loc 0 0 qq.1.length), (1, vi a1), (2, vi a2), (3, .d (.func fn_a3 cap_a3)), (8, vi i2)], stab [(0, .lst true (some 8) (List.map (eA8 (D.int .u16)) qq.1))], 1⟩) hl ?_ ?_
  ·
   rintro ⟨l8, i9⟩ xr10 h
   show NWp _ _ _ _ _ ⟨tab [(0, .loc 0 0 l8.length), (1, vi a1), (2, vi a2), (3, .d (.func fn_a3 cap_a3)), (8, vi i2), (9, vi i9)], stab [(0, .lst true (some 8) (List.map (eA8 (D.int .u16)) l8))], 1⟩
   refine NWp.seq ?_
   obtain ⟨y15, hv, h⟩ := bindE h
   refine NWp.opsJ ⟨tab [(0, .loc 0 0 l8.length), (1, vi a1), (2, vi a2), (3, .d (.func fn_a3 cap_a3)), (8, vi i2), (9, vi i9), (34, vb y15)], stab [(0, .lst true (some 8) (List.map (eA8 (D.int .u16)) l8))], 1⟩ ?_ ?_
   ·
    iterate 4 refine q1 _ ?_
    by_cases hg11 : decide (i9 > a1) = true
    ·
     replace hv := iteT hg11 hv
     obtain ⟨x12, hx12, hv⟩ := bindE hv
     obtain ⟨x13, hx13, hv⟩ := bindE hv
     obtain ⟨x14, hx14, hv⟩ := bindE hv
     refine qG _ hg11 ?_
     refine q1 _ ?_
     refine qG _ hg11 ?_
     refine q1 _ ?_
     refine qG _ hg11 ?_
     refine q1 _ ?_
     refine qG _ hg11 ?_
     refine step (v := .ptr 0 i9.toNat 0) (st_iaddrL (xs := l8) (e := (eA8 (D.int .u16))) hx12 rfl rfl rfl rfl) ?_
     refine qG _ hg11 ?_
     refine step (v := .d (eA8 (D.int .u16) x12)) (st_loadL (xs := l8) (e := (eA8 (D.int .u16))) hx12 rfl rfl rfl) ?_
     refine qG _ hg11 ?_
     refine q1 _ ?_
     refine qG _ hg11 ?_
     refine q1 _ ?_
     refine qG _ hg11 ?_
     refine q1 _ ?_
     refine qG _ hg11 ?_
     refine step (v := .ptr 0 (IntKind.i64.wrap (i9 - 1)).toNat 0) (st_iaddrL (xs := l8) (e := (eA8 (D.int .u16))) hx13 rfl rfl rfl rfl) ?_
     refine qG _ hg11 ?_
     refine step (v := .d (eA8 (D.int .u16) x13)) (st_loadL (xs := l8) (e := (eA8 (D.int .u16))) hx13 rfl rfl rfl) ?_
     refine qG _ hg11 ?_
     refine stepV' (r := .int .i64 x14) rfl (ArgsOk.dt (ArgsOk.dt ArgsOk.nil')) (hc_a3 _ _ _ hx14) ?_
     refine qG _ hg11 ?_
     refine q1 _ ?_
     refine step (v := vb (decide (x14 < 0))) (st_pickT (b := decide (i9 > a1)) rfl hg11 rfl) ?_
     have hh := Option.some.inj hv
     subst hh
     exact nR [0]
    ·
     replace hv := iteF hg11 hv
     iterate 12 refine qX _ hg11 ?_
     refine step (v := vb false) (st_pickF (b := decide (i9 > a1)) rfl hg11 rfl) ?_
     have hh := Option.some.inj hv
     subst hh
     exact nR [0]
   by_cases hc17 : y15 = true
   ·
    replace h := iteT hc17 h
    refine NWp.condT (t := y15) rfl hc17 ?_
    refine NWp.skip ?_
    refine NWp.seq ?_
    refine NWp.block ?_
    obtain ⟨x18, hx18, h⟩ := bindE h
    obtain ⟨x19, hx19, h⟩ := bindE h
    obtain ⟨l20, hl20, h⟩ := bindE h
    obtain ⟨x21, hx21, h⟩ := bindE h
    obtain ⟨l22, hl22, h⟩ := bindE h
    refine NWp.opsE ⟨tab [(0, .loc 0 0 l22.length), (1, vi a1), (2, vi a2), (3, .d (.func fn_a3 cap_a3)), (8, vi i2), (9, vi i9)], stab [(0, .lst true (some 8) (List.map (eA8 (D.int .u16)) l22))], 1⟩ ?_ ?_
    ·
     iterate 8 refine q1 _ ?_
     refine step (v := .ptr 0 (IntKind.i64.wrap (i9 - 1)).toNat 0) (st_iaddrL (xs := l8) (e := (eA8 (D.int .u16))) hx18 rfl rfl rfl rfl) ?_
     refine step (v := .d (eA8 (D.int .u16) x18)) (st_loadL (xs := l8) (e := (eA8 (D.int .u16))) hx18 rfl rfl rfl) ?_
     iterate 2 refine q1 _ ?_
     refine step (v := .ptr 0 i9.toNat 0) (st_iaddrL (xs := l8) (e := (eA8 (D.int .u16))) hx19 rfl rfl rfl rfl) ?_
     refine step (v := .d (eA8 (D.int .u16) x19)) (st_loadL (xs := l8) (e := (eA8 (D.int .u16))) hx19 rfl rfl rfl) ?_
     refine step (v := .ptr 0 i9.toNat 0) (st_iaddrL (xs := l8) (e := (eA8 (D.int .u16))) hx19 rfl rfl rfl rfl) ?_
     refine step (v := V.undef) (σ' := (upd (stab [(0, .lst true (some 8) (List.map (eA8 (D.int .u16)) l8))]) 0 (some (.lst true (some 8) (List.map (eA8 (D.int .u16)) l20))))) (n' := 1) (st_storeL' (e := (eA8 (D.int .u16))) (v' := x18) hl20 rfl rfl rfl rfl rfl) ?_
     refine step (v := .ptr 0 (IntKind.i64.wrap (i9 - 1)).toNat 0) (st_iaddrL (xs := l20) (e := (eA8 (D.int .u16))) hx21 rfl rfl (gput_len hl20).symm rfl) ?_
     refine step (v := V.undef) (σ' := (upd (upd (stab [(0, .lst true (some 8) (List.map (eA8 (D.int .u16)) l8))]) 0 (some (.lst true (some 8) (List.map (eA8 (D.int .u16)) l20)))) 0 (some (.lst true (some 8) (List.map (eA8 (D.int .u16)) l22))))) (n' := 1) (st_storeL' (e := (eA8 (D.int .u16))) (v' := x19) hl22 rfl rfl rfl rfl rfl) ?_
     exact RunOps.nil' (nm [0] ⟨.le (id := 0) ((gput_len hl20).symm.trans (gput_len hl22).symm) (show 0 < 1 by decide), .d _, .d _, .d _, .d _, .d _, trivial⟩ ⟨⟨show 0 < 1 by decide, _, rfl, .lst _ _ _⟩, trivial⟩)
    have hh := Option.some.inj h
    subst hh
    refine NWp.opsE ⟨tab [(0, .loc 0 0 l22.length), (1, vi a1), (2, vi a2), (3, .d (.func fn_a3 cap_a3)), (8, vi i2), (9, vi (IntKind.i64.wrap (i9 - 1)))], stab [(0, .lst true (some 8) (List.map (eA8 (D.int .u16)) l22))], 1⟩ ?_ ?_
    ·
     iterate 3 refine q1 _ ?_
     exact nR [0]
    exact And.intro rfl rfl
   ·
    replace h := iteF hc17 h
    refine NWp.condF (t := y15) rfl hc17 ?_
    have hh := Option.some.inj h
    subst hh
    refine NWp.norm (s0 := ⟨tab [(0, .loc 0 0 l8.length), (1, vi a1), (2, vi a2), (3, .d (.func fn_a3 cap_a3)), (8, vi i2)], stab [(0, .lst true (some 8) (List.map (eA8 (D.int .u16)) l8))], 1⟩) (nr [0]) ?_
    refine NWp.exit ?_
    exact And.intro rfl rfl
  have hh := Option.some.inj h
  subst hh
  refine NWp.opsE ⟨tab [(0, .loc 0 0 z23.length), (1, vi a1), (2, vi a2), (3, .d (.func fn_a3 cap_a3)), (8, vi (i2 + 1))], stab [(0, .lst true (some 8) (List.map (eA8 (D.int .u16)) z23))], 1⟩ ?_ ?_
  ·
   refine q1 _ ?_
   refine step (v := vi (i2 + 1)) (st_inc (inc_ok hinv5 hgo4 hB3) rfl rfl) ?_
   refine q1 _ ?_
   exact nR [0]
  exact And.intro rfl rfl
 ·
  rintro i2 l1 hinv5 hgo4
  show NWp _ _ _ _ _ ⟨tab [(0, .loc 0 0 l1.length), (1, vi a1), (2, vi a2), (3, .d (.func fn_a3 cap_a3)), (8, vi i2)], stab [(0, .lst true (some 8) (List.map (eA8 (D.int .u16)) l1))], 1⟩
  have hc6 : ¬ (decide (i2 < a2) = true) := fun hq => hgo4 (of_decide_eq_true hq)
  refine NWp.seq ?_
  refine NWp.opsJ ⟨tab [(0, .loc 0 0 l1.length), (1, vi a1), (2, vi a2), (3, .d (.func fn_a3 cap_a3)), (8, vi i2), (14, vb (decide (i2 < a2)))], stab [(0, .lst true (some 8) (List.map (eA8 (D.int .u16)) l1))], 1⟩ ?_ ?_
  ·
   iterate 3 refine q1 _ ?_
   exact nR [0]
  refine NWp.condF (t := decide (i2 < a2)) rfl hc6 ?_
  refine NWp.norm (s0 := ⟨tab [], stab [(0, .lst true (some 8) (List.map (eA8 (D.int .u16)) l1))], 1⟩) (nr [0]) ?_
  refine NWp.exit ?_
  exact And.intro rfl rfl
 have hh := Option.some.inj h
 subst hh
 exact ⟨.inl rfl, _, rfl, rfl, AllS.sub ⟨rfl, trivial⟩, rfl⟩

theorem c_slices_pdqsortCmpFunc_api_Packet {a0 : (List (A8 Int))} {a1 : Int} {a2 : Int} {a3 : Int} {a4 : ((A8 Int) → (A8 Int) → Option Int)} {g_a4 : D} (hf_a4 : Fn2 Try.prog g_a4 (eA8 (D.int .u16)) (eA8 (D.int .u16)) (D.int .i64) a4) {r : (List (A8 Int))} (h : slices_pdqsortCmpFunc_api_Packet a0 a1 a2 a3 a4 = some r) : SCall Try.prog 132 [.loc 0 0 a0.length, vi a1, vi a2, vi a3, .d g_a4] (stab [(0, .lst true (some 8) (List.map (eA8 (D.int .u16)) a0))]) 1 (.d (.tup [])) (stab [(0, .lst true (some 8) (List.map (eA8 (D.int .u16)) r))]) 1 := by
 obtain ⟨fn_a4, cap_a4, rfl, hc_a4⟩ := hf_a4
 refine SCall.introN (bl := [(0, .lst true (some 8) (List.map (eA8 (D.int .u16)) a0))]) (bl' := [(0, .lst true (some 8) (List.map (eA8 (D.int .u16)) r))]) ok132 (show 5 ≤ 148 by decide) rfl ?_
 refine NWp.norm (s0 := ⟨tab [(0, .loc 0 0 a0.length), (1, vi a1), (2, vi a2), (3, vi a3), (4, .d (.func fn_a4 cap_a4))], stab [(0, .lst true (some 8) (List.map (eA8 (D.int .u16)) a0))], 1⟩) (nr [0]) ?_
 refine NWp.opsJ ⟨tab [(0, .loc 0 0 a0.length), (1, vi a1), (2, vi a2), (3, vi a3), (4, .d (.func fn_a4 cap_a4)), (10, vb true)], stab [(0, .lst true (some 8) (List.map (eA8 (D.int .u16)) a0))], 1⟩ ?_ ?_
 ·
  refine q1 _ ?_
  exact nR [0]
 refine NWp.opsJ ⟨tab [(0, .loc 0 0 a0.length), (1, vi a1), (2, vi a2), (3, vi a3), (4, .d (.func fn_a4 cap_a4)), (10, vb true), (11, vb true)], stab [(0, .lst true (some 8) (List.map (eA8 (D.int .u16)) a0))], 1⟩ ?_ ?_
 ·
  refine q1 _ ?_
  exact nR [0]
 obtain ⟨q7, hl, h⟩ := bindE h
 refine NWp.block ?_
 refine loop_whR (fun (qq : Unit) => ⟨tab [(0, .loc 0 0 a0.length), (1, vi a1), (2, vi a2), (3, vi a3), (4, .d (.func fn_a4 cap_a4)), (10, vb true), (11, vb true)], stab [(0, .lst true (some 8) (List.map (eA8 (D.int .u16)) a0))], 1⟩) 0 (fun (qq : Unit) => ⟨tab [], stab [(0, .lst true (some 8) (List.map (eA8 (D.int .u16)) a0))], 1⟩) (r := r) hl ?_ ?_ ?_
 ·
  rintro ⟨⟩ xr1 h
  show NWp _ _ _ _ _ ⟨tab [(0, .loc 0 0 a0.length), (1, vi a1), (2, vi a2), (3, vi a3), (4, .d (.func fn_a4 cap_a4)), (10, vb true), (11, vb true)], stab [(0, .lst true (some 8) (List.map (eA8 (D.int .u16)) a0))], 1⟩
  refine NWp.block ?_
  refine NWp.opsJ ⟨tab [(0, .loc 0 0 a0.length), (1, vi a1), (2, vi a2), (3, vi a3), (4, .d (.func fn_a4 cap_a4)), (10, vb true), (11, vb true), (12, vi (IntKind.i64.wrap (a2 - a1)))], stab [(0, .lst true (some 8) (List.map (eA8 (D.int .u16)) a0))], 1⟩ ?_ ?_
  ·
   iterate 4 refine q1 _ ?_
   exact nR [0]
  refine NWp.seq ?_
  refine NWp.opsJ ⟨tab [(0, .loc 0 0 a0.length), (1, vi a1), (2, vi a2), (3, vi a3), (4, .d (.func fn_a4 cap_a4)), (10, vb true), (11, vb true), (12, vi (IntKind.i64.wrap (a2 - a1))), (25, vb (decide ((IntKind.i64.wrap (a2 - a1)) ≤ 12)))], stab [(0, .lst true (some 8) (List.map (eA8 (D.int .u16)) a0))], 1⟩ ?_ ?_
  ·
   iterate 2 refine q1 _ ?_
   exact nR [0]
  by_cases hc2 : decide ((IntKind.i64.wrap (a2 - a1)) ≤ 12) = true
  ·
   replace h := iteT hc2 h
   refine NWp.condT (t := decide ((IntKind.i64.wrap (a2 - a1)) ≤ 12)) rfl hc2 ?_
   obtain ⟨r3, hr3, h⟩ := bindE h
   refine NWp.opsJ ⟨tab [], stab [(0, .lst true (some 8) (List.map (eA8 (D.int .u16)) r3))], 1⟩ ?_ ?_
   ·
    iterate 4 refine q1 _ ?_
    refine stepW (v := .d (.tup [])) (σ' := (upd (upd (stab [(0, .lst true (some 8) (List.map (eA8 (D.int .u16)) a0))]) 0 none) 0 (some (.lst true (some 8) (List.map (eA8 (D.int .u16)) r3))))) (n' := 1) (SCall.lift [0] (c_slices_insertionSortCmpFunc_api_Packet ⟨_, _, rfl, hc_a4⟩ hr3) (show 1 ≤ 1 by decide) (by decide) (show ∀ i ∈ [0], i < 1 by decide) (dom_c (show 0 < 1 by decide) dom_n) (VNs.c (.lc 0) (VNs.c (.d _) (VNs.c (.d _) (VNs.c (.d _) VNs.nil0)))) (SN.c (show 0 < 1 by decide) rfl (.lst _ _ _) SN.nil0)) (show 1 ≤ 1 by decide) ?_
    exact nR [0]
   obtain ⟨r4, kr4, hr⟩ := mapE (o := some r3) (g := Br.ret) h
   subst hr
   have h := kr4
   have hh := Option.some.inj h
   subst hh
   refine NWp.ret ?_
   refine And.intro (fun hn => nomatch hn) ?_
   intro hq
   have hq := hq.symm
   subst hq
   exact ⟨.inr rfl, _, rfl, rfl, AllS.sub ⟨rfl, trivial⟩, rfl⟩
  ·
   replace h := iteF hc2 h
   refine NWp.condF (t := decide ((IntKind.i64.wrap (a2 - a1)) ≤ 12)) rfl hc2 ?_
   refine NWp.skip ?_
   refine NWp.seq ?_
   refine NWp.opsJ ⟨tab [(0, .loc 0 0 a0.length), (1, vi a1), (2, vi a2), (3, vi a3), (4, .d (.func fn_a4 cap_a4)), (10, vb true), (11, vb true), (12, vi (IntKind.i64.wrap (a2 - a1))), (32, vb (a3 == 0))], stab [(0, .lst true (some 8) (List.map (eA8 (D.int .u16)) a0))], 1⟩ ?_ ?_
   ·
    iterate 2 refine q1 _ ?_
    exact nR [0]
   by_cases hc4 : (a3 == 0) = true
   ·
    replace h := iteT hc4 h
    refine NWp.condT (t := (a3 == 0)) rfl hc4 ?_
    cases h
   ·
    replace h := iteF hc4 h
    refine NWp.condF (t := (a3 == 0)) rfl hc4 ?_
    refine NWp.skip ?_
    obtain ⟨q6, hv, h⟩ := bindE h
    obtain ⟨⟩ := q6
    refine NWp.seqN ⟨tab [(0, .loc 0 0 a0.length), (1, vi a1), (2, vi a2), (3, vi a3), (4, .d (.func fn_a4 cap_a4)), (10, vb true), (11, vb true), (12, vi (IntKind.i64.wrap (a2 - a1)))], stab [(0, .lst true (some 8) (List.map (eA8 (D.int .u16)) a0))], 1⟩ ?_ ?_
    ·
     replace h := hv
     refine NWp.opsJ ⟨tab [(0, .loc 0 0 a0.length), (1, vi a1), (2, vi a2), (3, vi a3), (4, .d (.func fn_a4 cap_a4)), (10, vb true), (11, vb true), (12, vi (IntKind.i64.wrap (a2 - a1))), (39, vb (!true))], stab [(0, .lst true (some 8) (List.map (eA8 (D.int .u16)) a0))], 1⟩ ?_ ?_
     ·
      iterate 2 refine q1 _ ?_
      exact nR [0]
     by_cases hc5 : (!true) = true
     ·
      replace h := iteT hc5 h
      refine NWp.condT (t := (!true)) rfl hc5 ?_
      cases h
     ·
      replace h := iteF hc5 h
      refine NWp.condF (t := (!true)) rfl hc5 ?_
      refine NWp.norm (s0 := ⟨tab [(0, .loc 0 0 a0.length), (1, vi a1), (2, vi a2), (3, vi a3), (4, .d (.func fn_a4 cap_a4)), (10, vb true), (11, vb true), (12, vi (IntKind.i64.wrap (a2 - a1)))], stab [(0, .lst true (some 8) (List.map (eA8 (D.int .u16)) a0))], 1⟩) (nr [0]) ?_
      refine NWp.skip ?_
      exact And.intro rfl rfl
    cases h
 ·
  intro r' hq
  subst hq
  exact Option.some.inj h
 rintro ⟨⟩ rfl
 have hh := Option.some.inj h
 subst hh
 exact ⟨.inl rfl, _, rfl, rfl, AllS.sub ⟨rfl, trivial⟩, rfl⟩

theorem c_slices_SortFunc_api_Packet {a0 : (List (A8 Int))} {a1 : ((A8 Int) → (A8 Int) → Option Int)} {g_a1 : D} (hf_a1 : Fn2 Try.prog g_a1 (eA8 (D.int .u16)) (eA8 (D.int .u16)) (D.int .i64) a1) {r : (List (A8 Int))} (h : slices_SortFunc_api_Packet a0 a1 = some r) : SCall Try.prog 128 [.loc 0 0 a0.length, .d g_a1] (stab [(0, .lst true (some 8) (List.map (eA8 (D.int .u16)) a0))]) 1 (.d (.tup [])) (stab [(0, .lst true (some 8) (List.map (eA8 (D.int .u16)) r))]) 1 := by
 obtain ⟨fn_a1, cap_a1, rfl, hc_a1⟩ := hf_a1
 refine SCall.introN (bl := [(0, .lst true (some 8) (List.map (eA8 (D.int .u16)) a0))]) (bl' := [(0, .lst true (some 8) (List.map (eA8 (D.int .u16)) r))]) ok128 (show 2 ≤ 14 by decide) rfl ?_
 refine NWp.norm (s0 := ⟨tab [(0, .loc 0 0 a0.length), (1, .d (.func fn_a1 cap_a1))], stab [(0, .lst true (some 8) (List.map (eA8 (D.int .u16)) a0))], 1⟩) (nr [0]) ?_
 refine NWp.opsJ ⟨tab [(0, .loc 0 0 a0.length), (1, .d (.func fn_a1 cap_a1)), (4, vi (a0.length : Int))], stab [(0, .lst true (some 8) (List.map (eA8 (D.int .u16)) a0))], 1⟩ ?_ ?_
 ·
  iterate 3 refine q1 _ ?_
  exact nR [0]
 obtain ⟨r1, hr1, h⟩ := bindE h
 obtain ⟨r2, hr2, h⟩ := bindE h
 have hh := Option.some.inj h
 subst hh
 refine NWp.opsE ⟨tab [], stab [(0, .lst true (some 8) (List.map (eA8 (D.int .u16)) r2))], 1⟩ ?_ ?_
 ·
  iterate 4 refine q1 _ ?_
  refine stepC (r := .int .i64 r1) (ArgsOk.dt ArgsOk.nil') (c_math_bits_Len hr1) ?_
  refine q1 _ ?_
  refine stepW (v := .d (.tup [])) (σ' := (upd (upd (stab [(0, .lst true (some 8) (List.map (eA8 (D.int .u16)) a0))]) 0 none) 0 (some (.lst true (some 8) (List.map (eA8 (D.int .u16)) r2))))) (n' := 1) (SCall.lift [0] (c_slices_pdqsortCmpFunc_api_Packet ⟨_, _, rfl, hc_a1⟩ hr2) (show 1 ≤ 1 by decide) (by decide) (show ∀ i ∈ [0], i < 1 by decide) (dom_c (show 0 < 1 by decide) dom_n) (VNs.c (.lc 0) (VNs.c (.d _) (VNs.c (.d _) (VNs.c (.d _) (VNs.c (.d _) VNs.nil0))))) (SN.c (show 0 < 1 by decide) rfl (.lst _ _ _) SN.nil0)) (show 1 ≤ 1 by decide) ?_
  exact nR [0]
 exact ⟨.inl rfl, _, rfl, rfl, AllS.sub ⟨rfl, trivial⟩, rfl⟩

theorem c_cmp_isNaN_uint16 {a0 : Int} {r : Bool} (h : cmp_isNaN_uint16 a0 = some r) : PCall Try.prog 142 [.int .u16 a0] (.bool r) := by
 refine PCall.introN ok142 (show 1 ≤ 6 by decide) ?_
 refine NWp.norm (s0 := ⟨tab [(0, vh a0)], stab [], 0⟩) (nr []) ?_
 refine NWp.opsJ ⟨tab [(0, vh a0)], stab [], 0⟩ ?_ ?_
 ·
  refine q1 _ ?_
  exact nR []
 refine NWp.opsJ ⟨tab [(2, vb (a0 != a0))], stab [], 0⟩ ?_ ?_
 ·
  iterate 4 refine q1 _ ?_
  exact nR []
 have hh := Option.some.inj h
 subst hh
 refine NWp.ret ?_
 show FQ _ _ _ _
 exact FQ.mk1 (.inr rfl) (res_t (v := vb (a0 != a0)) rfl rfl) (RV.d trivial)

theorem c_cmp_Compare_uint16 {a0 : Int} {a1 : Int} {r : Int} (h : cmp_Compare_uint16 a0 a1 = some r) : PCall Try.prog 133 [.int .u16 a0, .int .u16 a1] (.int .i64 r) := by
 refine PCall.introN ok133 (show 2 ≤ 20 by decide) ?_
 refine NWp.norm (s0 := ⟨tab [(0, vh a0), (1, vh a1)], stab [], 0⟩) (nr []) ?_
 refine NWp.opsJ ⟨tab [(0, vh a0), (1, vh a1)], stab [], 0⟩ ?_ ?_
 ·
  refine q1 _ ?_
  exact nR []
 obtain ⟨r1, hr1, h⟩ := bindE h
 refine NWp.opsJ ⟨tab [(0, vh a0), (1, vh a1), (5, vb r1)], stab [], 0⟩ ?_ ?_
 ·
  refine q1 _ ?_
  refine stepC (r := .bool r1) (ArgsOk.dt ArgsOk.nil') (c_cmp_isNaN_uint16 hr1) ?_
  refine q1 _ ?_
  exact nR []
 obtain ⟨r2, hr2, h⟩ := bindE h
 refine NWp.opsJ ⟨tab [(0, vh a0), (1, vh a1), (5, vb r1), (6, vb r2)], stab [], 0⟩ ?_ ?_
 ·
  refine q1 _ ?_
  refine stepC (r := .bool r2) (ArgsOk.dt ArgsOk.nil') (c_cmp_isNaN_uint16 hr2) ?_
  refine q1 _ ?_
  exact nR []
 refine NWp.seq ?_
 refine NWp.opsJ ⟨tab [(0, vh a0), (1, vh a1), (6, vb r2), (11, vb r1)], stab [], 0⟩ ?_ ?_
 ·
  refine q1 _ ?_
  exact nR []
 by_cases hc3 : r1 = true
 ·
  replace h := iteT hc3 h
  refine NWp.condT (t := r1) rfl hc3 ?_
  refine NWp.seq ?_
  refine NWp.opsJ ⟨tab [(12, vb r2)], stab [], 0⟩ ?_ ?_
  ·
   refine q1 _ ?_
   exact nR []
  by_cases hc4 : r2 = true
  ·
   replace h := iteT hc4 h
   refine NWp.condT (t := r2) rfl hc4 ?_
   refine NWp.opsJ ⟨tab [(4, vi 0)], stab [], 0⟩ ?_ ?_
   ·
    refine q1 _ ?_
    exact nR []
   have hh := Option.some.inj h
   subst hh
   refine NWp.ret ?_
   show FQ _ _ _ _
   exact FQ.mk1 (.inr rfl) (res_t (v := vi 0) rfl rfl) (RV.d trivial)
  ·
   replace h := iteF hc4 h
   refine NWp.condF (t := r2) rfl hc4 ?_
   refine NWp.skip ?_
   refine NWp.opsJ ⟨tab [(4, vi (-1))], stab [], 0⟩ ?_ ?_
   ·
    refine q1 _ ?_
    exact nR []
   have hh := Option.some.inj h
   subst hh
   refine NWp.ret ?_
   show FQ _ _ _ _
   exact FQ.mk1 (.inr rfl) (res_t (v := vi (-1)) rfl rfl) (RV.d trivial)
 ·
  replace h := iteF hc3 h
  refine NWp.condF (t := r1) rfl hc3 ?_
  refine NWp.skip ?_
  refine NWp.seq ?_
  refine NWp.opsJ ⟨tab [(0, vh a0), (1, vh a1), (13, vb r2)], stab [], 0⟩ ?_ ?_
  ·
   refine q1 _ ?_
   exact nR []
  by_cases hc5 : r2 = true
  ·
   replace h := iteT hc5 h
   refine NWp.condT (t := r2) rfl hc5 ?_
   refine NWp.opsJ ⟨tab [(4, vi 1)], stab [], 0⟩ ?_ ?_
   ·
    refine q1 _ ?_
    exact nR []
   have hh := Option.some.inj h
   subst hh
   refine NWp.ret ?_
   show FQ _ _ _ _
   exact FQ.mk1 (.inr rfl) (res_t (v := vi 1) rfl rfl) (RV.d trivial)
  ·
   replace h := iteF hc5 h
   refine NWp.condF (t := r2) rfl hc5 ?_
   refine NWp.skip ?_
   refine NWp.seq ?_
   refine NWp.opsJ ⟨tab [(0, vh a0), (1, vh a1), (16, vb (decide (a0 < a1)))], stab [], 0⟩ ?_ ?_
   ·
    iterate 3 refine q1 _ ?_
    exact nR []
   by_cases hc6 : decide (a0 < a1) = true
   ·
    replace h := iteT hc6 h
    refine NWp.condT (t := decide (a0 < a1)) rfl hc6 ?_
    refine NWp.opsJ ⟨tab [(4, vi (-1))], stab [], 0⟩ ?_ ?_
    ·
     refine q1 _ ?_
     exact nR []
    have hh := Option.some.inj h
    subst hh
    refine NWp.ret ?_
    show FQ _ _ _ _
    exact FQ.mk1 (.inr rfl) (res_t (v := vi (-1)) rfl rfl) (RV.d trivial)
   ·
    replace h := iteF hc6 h
    refine NWp.condF (t := decide (a0 < a1)) rfl hc6 ?_
    refine NWp.skip ?_
    refine NWp.seq ?_
    refine NWp.opsJ ⟨tab [(19, vb (decide (a0 > a1)))], stab [], 0⟩ ?_ ?_
    ·
     iterate 3 refine q1 _ ?_
     exact nR []
    by_cases hc7 : decide (a0 > a1) = true
    ·
     replace h := iteT hc7 h
     refine NWp.condT (t := decide (a0 > a1)) rfl hc7 ?_
     refine NWp.opsJ ⟨tab [(4, vi 1)], stab [], 0⟩ ?_ ?_
     ·
      refine q1 _ ?_
      exact nR []
     have hh := Option.some.inj h
     subst hh
     refine NWp.ret ?_
     show FQ _ _ _ _
     exact FQ.mk1 (.inr rfl) (res_t (v := vi 1) rfl rfl) (RV.d trivial)
    ·
     replace h := iteF hc7 h
     refine NWp.condF (t := decide (a0 > a1)) rfl hc7 ?_
     refine NWp.skip ?_
     refine NWp.opsJ ⟨tab [(4, vi 0)], stab [], 0⟩ ?_ ?_
     ·
      refine q1 _ ?_
      exact nR []
     have hh := Option.some.inj h
     subst hh
     refine NWp.ret ?_
     show FQ _ _ _ _
     exact FQ.mk1 (.inr rfl) (res_t (v := vi 0) rfl rfl) (RV.d trivial)

theorem c_packet_Compare {a0 : (A8 Int)} {a1 : (A8 Int)} {r : Int} (h : packet_Compare a0 a1 = some r) : PCall Try.prog 129 [eA8 (D.int .u16) a0, eA8 (D.int .u16) a1] (.int .i64 r) := by
 refine PCall.introN ok129 (show 2 ≤ 21 by decide) ?_
 refine NWp.norm (s0 := ⟨tab [(0, .d (eA8 (D.int .u16) a0)), (1, .d (eA8 (D.int .u16) a1))], stab [], 0⟩) (nr []) ?_
 refine NWp.opsJ ⟨tab [(2, .d (.cptr (some 8) (eA8 (D.int .u16) a0) 0)), (3, .d (.cptr (some 8) (eA8 (D.int .u16) a1) 0))], stab [], 0⟩ ?_ ?_
 ·
  iterate 3 refine q1 _ ?_
  exact nR []
 refine NWp.seq ?_
 refine NWp.opsJ ⟨tab [(2, .d (.cptr (some 8) (eA8 (D.int .u16) a0) 0)), (3, .d (.cptr (some 8) (eA8 (D.int .u16) a1) 0)), (7, vi 0)], stab [], 0⟩ ?_ ?_
 ·
  refine q1 _ ?_
  exact nR []
 obtain ⟨q11, hl, h⟩ := bindE h
 refine NWp.block ?_
 refine loop_forR (cntU 8) (fun (i1 : Int) (qq : Unit) => ⟨tab [(2, .d (.cptr (some 8) (eA8 (D.int .u16) a0) 0)), (3, .d (.cptr (some 8) (eA8 (D.int .u16) a1) 0)), (7, vi i1)], stab [], 0⟩) 0 (fun (qq : Unit) => ⟨tab [], stab [], 0⟩) Low low_step (r := r) hl (by unfold Low; omega) ?_ ?_ ?_ ?_
 ·
  rintro i1 ⟨⟩ xr6 hinv4 hgo3 h
  show NWp _ _ _ _ _ ⟨tab [(2, .d (.cptr (some 8) (eA8 (D.int .u16) a0) 0)), (3, .d (.cptr (some 8) (eA8 (D.int .u16) a1) 0)), (7, vi i1)], stab [], 0⟩
  have hc5 : decide (i1 < 8) = true := decide_eq_true hgo3
  refine NWp.opsJ ⟨tab [(2, .d (.cptr (some 8) (eA8 (D.int .u16) a0) 0)), (3, .d (.cptr (some 8) (eA8 (D.int .u16) a1) 0)), (7, vi i1), (8, vb (decide (i1 < 8)))], stab [], 0⟩ ?_ ?_
  ·
   refine q1 _ ?_
   exact nR []
  refine NWp.seq ?_
  refine NWp.condT (t := decide (i1 < 8)) rfl hc5 ?_
  refine NWp.skip ?_
  refine NWp.seq ?_
  refine NWp.block ?_
  refine NWp.opsJ ⟨tab [(2, .d (.cptr (some 8) (eA8 (D.int .u16) a0) 0)), (3, .d (.cptr (some 8) (eA8 (D.int .u16) a1) 0)), (5, vi i1), (7, vi i1)], stab [], 0⟩ ?_ ?_
  ·
   iterate 2 refine q1 _ ?_
   exact nR []
  obtain ⟨x7, hx7, h⟩ := bindE h
  obtain ⟨x8, hx8, h⟩ := bindE h
  obtain ⟨r9, hr9, h⟩ := bindE h
  refine NWp.opsJ ⟨tab [(2, .d (.cptr (some 8) (eA8 (D.int .u16) a0) 0)), (3, .d (.cptr (some 8) (eA8 (D.int .u16) a1) 0)), (6, vi r9), (7, vi i1)], stab [], 0⟩ ?_ ?_
  ·
   refine q1 _ ?_
   refine step (v := .d (.cptr (some 8) (eA8 (D.int .u16) a0) (0 + i1.toNat * 1))) (st_iaddrAC (xs := a0.l) hx7 rfl rfl rfl) ?_
   refine step (v := vh x7) (st_ldIC rfl (ld_arr (e := (D.int .u16)) (xs := a0.l) (pre := []) (post := []) hx7 rfl (by decide))) ?_
   refine q1 _ ?_
   refine step (v := .d (.cptr (some 8) (eA8 (D.int .u16) a1) (0 + i1.toNat * 1))) (st_iaddrAC (xs := a1.l) hx8 rfl rfl rfl) ?_
   refine step (v := vh x8) (st_ldIC rfl (ld_arr (e := (D.int .u16)) (xs := a1.l) (pre := []) (post := []) hx8 rfl (by decide))) ?_
   refine stepC (r := .int .i64 r9) (ArgsOk.dt (ArgsOk.dt ArgsOk.nil')) (c_cmp_Compare_uint16 hr9) ?_
   refine q1 _ ?_
   exact nR []
  refine NWp.opsJ ⟨tab [(2, .d (.cptr (some 8) (eA8 (D.int .u16) a0) 0)), (3, .d (.cptr (some 8) (eA8 (D.int .u16) a1) 0)), (6, vi r9), (7, vi i1), (18, vb (r9 != 0))], stab [], 0⟩ ?_ ?_
  ·
   iterate 2 refine q1 _ ?_
   exact nR []
  by_cases hc10 : (r9 != 0) = true
  ·
   replace h := iteT hc10 h
   refine NWp.condT (t := (r9 != 0)) rfl hc10 ?_
   refine NWp.opsJ ⟨tab [(4, vi r9)], stab [], 0⟩ ?_ ?_
   ·
    iterate 2 refine q1 _ ?_
    exact nR []
   obtain ⟨r11, kr11, hr⟩ := mapE (o := some r9) (g := Br.ret) h
   subst hr
   have h := kr11
   have hh := Option.some.inj h
   subst hh
   refine NWp.ret ?_
   refine And.intro (fun hn => nomatch hn) ?_
   intro hq
   have hq := hq.symm
   subst hq
   show FQ _ _ _ _
   exact FQ.mk1 (.inr rfl) (res_t (v := vi r9) rfl rfl) (RV.d trivial)
  ·
   replace h := iteF hc10 h
   refine NWp.condF (t := (r9 != 0)) rfl hc10 ?_
   refine NWp.skip ?_
   have hh := Option.some.inj h
   subst hh
   refine NWp.opsE ⟨tab [(2, .d (.cptr (some 8) (eA8 (D.int .u16) a0) 0)), (3, .d (.cptr (some 8) (eA8 (D.int .u16) a1) 0)), (7, vi (i1 + 1))], stab [], 0⟩ ?_ ?_
   ·
    refine step (v := vi (i1 + 1)) (st_inc (inc_ok hinv4 hgo3 (by decide)) rfl rfl) ?_
    refine q1 _ ?_
    exact nR []
   exact And.intro rfl rfl
 ·
  rintro i1 ⟨⟩ hinv4 hgo3
  show NWp _ _ _ _ _ ⟨tab [(2, .d (.cptr (some 8) (eA8 (D.int .u16) a0) 0)), (3, .d (.cptr (some 8) (eA8 (D.int .u16) a1) 0)), (7, vi i1)], stab [], 0⟩
  have hc5 : ¬ (decide (i1 < 8) = true) := fun hq => hgo3 (of_decide_eq_true hq)
  refine NWp.opsJ ⟨tab [(2, .d (.cptr (some 8) (eA8 (D.int .u16) a0) 0)), (3, .d (.cptr (some 8) (eA8 (D.int .u16) a1) 0)), (7, vi i1), (8, vb (decide (i1 < 8)))], stab [], 0⟩ ?_ ?_
  ·
   refine q1 _ ?_
   exact nR []
  refine NWp.seq ?_
  refine NWp.condF (t := decide (i1 < 8)) rfl hc5 ?_
  refine NWp.norm (s0 := ⟨tab [], stab [], 0⟩) (nr []) ?_
  refine NWp.exit ?_
  exact And.intro rfl rfl
 ·
  intro r' hq
  subst hq
  exact Option.some.inj h
 rintro ⟨⟩ rfl
 refine NWp.opsJ ⟨tab [(4, vi 0)], stab [], 0⟩ ?_ ?_
 ·
  refine q1 _ ?_
  exact nR []
 have hh := Option.some.inj h
 subst hh
 refine NWp.ret ?_
 show FQ _ _ _ _
 exact FQ.mk1 (.inr rfl) (res_t (v := vi 0) rfl rfl) (RV.d trivial)

theorem c_slices_Compact_api_Packet {a0 : (List (A8 Int))} {r : (List (A8 Int))} (h : slices_Compact_api_Packet a0 = some r) : SCall Try.prog 130 [.loc 0 0 a0.length] (stab [(0, .lst true (some 8) (List.map (eA8 (D.int .u16)) a0))]) 1 (.loc 0 0 r.length) (stab [(0, .lst true (some 8) (List.map (eA8 (D.int .u16)) r))]) 1 := by
 refine SCall.introN (bl := [(0, .lst true (some 8) (List.map (eA8 (D.int .u16)) a0))]) (bl' := [(0, .lst true (some 8) (List.map (eA8 (D.int .u16)) r))]) ok130 (show 1 ≤ 61 by decide) rfl ?_
 refine NWp.norm (s0 := ⟨tab [(0, .loc 0 0 a0.length)], stab [(0, .lst true (some 8) (List.map (eA8 (D.int .u16)) a0))], 1⟩) (nr [0]) ?_
 refine NWp.opsJ ⟨tab [(0, .loc 0 0 a0.length)], stab [(0, .lst true (some 8) (List.map (eA8 (D.int .u16)) a0))], 1⟩ ?_ ?_
 ·
  refine q1 _ ?_
  exact nR [0]
 refine NWp.seq ?_
 refine NWp.opsJ ⟨tab [(0, .loc 0 0 a0.length), (8, vb (decide ((a0.length : Int) < 2)))], stab [(0, .lst true (some 8) (List.map (eA8 (D.int .u16)) a0))], 1⟩ ?_ ?_
 ·
  iterate 3 refine q1 _ ?_
  exact nR [0]
 by_cases hc1 : decide ((a0.length : Int) < 2) = true
 ·
  replace h := iteT hc1 h
  refine NWp.condT (t := decide ((a0.length : Int) < 2)) rfl hc1 ?_
  refine NWp.opsJ ⟨tab [(2, .loc 0 0 a0.length)], stab [(0, .lst true (some 8) (List.map (eA8 (D.int .u16)) a0))], 1⟩ ?_ ?_
  ·
   iterate 2 refine q1 _ ?_
   exact nR [0]
  have hh := Option.some.inj h
  subst hh
  refine NWp.ret ?_
  exact ⟨.inr rfl, _, rfl, rfl, AllS.sub ⟨rfl, trivial⟩, rfl⟩
 ·
  replace h := iteF hc1 h
  refine NWp.condF (t := decide ((a0.length : Int) < 2)) rfl hc1 ?_
  refine NWp.skip ?_
  refine NWp.seq ?_
  refine NWp.opsJ ⟨tab [(0, .loc 0 0 a0.length), (3, vi 1)], stab [(0, .lst true (some 8) (List.map (eA8 (D.int .u16)) a0))], 1⟩ ?_ ?_
  ·
   refine q1 _ ?_
   exact nR [0]
  obtain ⟨q14, hl, h⟩ := bindE h
  refine NWp.block ?_
  refine loop_forR (cntU (a0.length : Int)) (fun (i2 : Int) (qq : Unit) => ⟨tab [(0, .loc 0 0 a0.length), (3, vi i2)], stab [(0, .lst true (some 8) (List.map (eA8 (D.int .u16)) a0))], 1⟩) 0 (fun (qq : Unit) => ⟨tab [(0, .loc 0 0 a0.length)], stab [(0, .lst true (some 8) (List.map (eA8 (D.int .u16)) a0))], 1⟩) Low low_step (r := r) hl (by unfold Low; omega) ?_ ?_ ?_ ?_
  ·
   rintro i2 ⟨⟩ xr7 hinv5 hgo4 h
   show NWp _ _ _ _ _ ⟨tab [(0, .loc 0 0 a0.length), (3, vi i2)], stab [(0, .lst true (some 8) (List.map (eA8 (D.int .u16)) a0))], 1⟩
   have hc6 : decide (i2 < (a0.length : Int)) = true := decide_eq_true hgo4
   refine NWp.seq ?_
   refine NWp.opsJ ⟨tab [(0, .loc 0 0 a0.length), (3, vi i2), (12, vi (a0.length : Int)), (13, vb (decide (i2 < (a0.length : Int))))], stab [(0, .lst true (some 8) (List.map (eA8 (D.int .u16)) a0))], 1⟩ ?_ ?_
   ·
    iterate 4 refine q1 _ ?_
    exact nR [0]
   refine NWp.rng 12 rfl fun hB3 => ?_
   refine NWp.condT (t := decide (i2 < (a0.length : Int))) rfl hc6 ?_
   refine NWp.skip ?_
   refine NWp.seq ?_
   refine NWp.block ?_
   obtain ⟨x8, hx8, h⟩ := bindE h
   obtain ⟨x9, hx9, h⟩ := bindE h
   refine NWp.opsJ ⟨tab [(0, .loc 0 0 a0.length), (3, vi i2), (25, vb (x8 == x9))], stab [(0, .lst true (some 8) (List.map (eA8 (D.int .u16)) a0))], 1⟩ ?_ ?_
   ·
    iterate 2 refine q1 _ ?_
    refine step (v := .ptr 0 i2.toNat 0) (st_iaddrL (xs := a0) (e := (eA8 (D.int .u16))) hx8 rfl rfl rfl rfl) ?_
    refine step (v := .d (eA8 (D.int .u16) x8)) (st_loadL (xs := a0) (e := (eA8 (D.int .u16))) hx8 rfl rfl rfl) ?_
    iterate 3 refine q1 _ ?_
    refine step (v := .ptr 0 (IntKind.i64.wrap (i2 - 1)).toNat 0) (st_iaddrL (xs := a0) (e := (eA8 (D.int .u16))) hx9 rfl rfl rfl rfl) ?_
    refine step (v := .d (eA8 (D.int .u16) x9)) (st_loadL (xs := a0) (e := (eA8 (D.int .u16))) hx9 rfl rfl rfl) ?_
    refine step (v := vb (x8 == x9)) (st_eqS (neg := false) rfl rfl (eqS_A8_Int x8 x9)) ?_
    exact nR [0]
   by_cases hc10 : (x8 == x9) = true
   ·
    replace h := iteT hc10 h
    refine NWp.condT (t := (x8 == x9)) rfl hc10 ?_
    obtain ⟨l11, hl11, h⟩ := bindE h
    refine NWp.opsJ ⟨tab [(0, .loc 0 0 a0.length), (3, vi i2), (4, .loc 0 i2.toNat ((a0.length : Int).toNat - i2.toNat))], stab [(0, .lst true (some 8) (List.map (eA8 (D.int .u16)) a0))], 1⟩ ?_ ?_
    ·
     iterate 2 refine q1 _ ?_
     refine step (v := .loc 0 i2.toNat ((a0.length : Int).toNat - i2.toNat)) (st_slcL (xs := a0) (e := (eA8 (D.int .u16))) hl11 rfl rfl rfl ⟨_, rfl⟩ rfl) ?_
     refine q1 _ ?_
     exact nR [0]
    refine NWp.seq ?_
    refine NWp.opsJ ⟨tab [(0, .loc 0 0 a0.length), (3, vi i2), (4, .loc 0 i2.toNat ((a0.length : Int).toNat - i2.toNat)), (5, vi 1)], stab [(0, .lst true (some 8) (List.map (eA8 (D.int .u16)) a0))], 1⟩ ?_ ?_
    ·
     refine q1 _ ?_
     exact nR [0]
    obtain ⟨q13, hl, h⟩ := bindE h
    obtain ⟨⟩ := q13
    refine NWp.block ?_
    refine loop_whK (fun (qq : Unit) => ⟨tab [(0, .loc 0 0 a0.length), (3, vi i2), (4, .loc 0 i2.toNat ((a0.length : Int).toNat - i2.toNat)), (5, vi 1)], stab [(0, .lst true (some 8) (List.map (eA8 (D.int .u16)) a0))], 1⟩) 2 (fun (qq : Unit) => ⟨tab [(0, .loc 0 0 a0.length), (3, vi i2)], stab [(0, .lst true (some 8) (List.map (eA8 (D.int .u16)) a0))], 1⟩) hl ?_ ?_
    ·
     rintro ⟨⟩ xr12 h
     show NWp _ _ _ _ _ ⟨tab [(0, .loc 0 0 a0.length), (3, vi i2), (4, .loc 0 i2.toNat ((a0.length : Int).toNat - i2.toNat)), (5, vi 1)], stab [(0, .lst true (some 8) (List.map (eA8 (D.int .u16)) a0))], 1⟩
     refine NWp.seq ?_
     cases h
    refine NWp.opsJ ⟨tab [(0, .loc 0 0 a0.length), (3, vi i2)], stab [(0, .lst true (some 8) (List.map (eA8 (D.int .u16)) (a0.take i2.toNat)))], 1⟩ ?_ ?_
    ·
     iterate 2 refine q1 _ ?_
     refine step (v := .loc 0 i2.toNat ((a0.length : Int).toNat - i2.toNat)) (st_slcL (xs := a0) (e := (eA8 (D.int .u16))) hl11 rfl rfl rfl ⟨_, rfl⟩ rfl) ?_
     refine step (v := .d (.tup [])) (σ' := (upd (stab [(0, .lst true (some 8) (List.map (eA8 (D.int .u16)) a0))]) 0 (some (.lst true (some 8) (List.map (eA8 (D.int .u16)) (a0.take i2.toNat)))))) (n' := 1) (st_clear (xs := a0) (e := (eA8 (D.int .u16))) rfl rfl (by have := gcut_bnd hl11; omega)) ?_
     exact nR [0]
    refine NWp.opsJ ⟨tab [(2, .loc 0 0 ((a0.take i2.toNat).length))], stab [(0, .lst true (some 8) (List.map (eA8 (D.int .u16)) (a0.take i2.toNat)))], 1⟩ ?_ ?_
    ·
     iterate 2 refine q1 _ ?_
     refine step (v := .loc 0 0 ((a0.take i2.toNat).length)) (st_slcT (xs := a0) (e := (eA8 (D.int .u16))) hl11 rfl rfl rfl rfl ⟨_, rfl⟩) ?_
     refine q1 _ ?_
     exact nR [0]
    obtain ⟨r13, kr13, hr⟩ := mapE (o := some (a0.take i2.toNat)) (g := Br.ret) h
    subst hr
    have h := kr13
    have hh := Option.some.inj h
    subst hh
    refine NWp.ret ?_
    refine And.intro (fun hn => nomatch hn) ?_
    intro hq
    have hq := hq.symm
    subst hq
    exact ⟨.inr rfl, _, rfl, rfl, AllS.sub ⟨rfl, trivial⟩, rfl⟩
   ·
    replace h := iteF hc10 h
    refine NWp.condF (t := (x8 == x9)) rfl hc10 ?_
    refine NWp.skip ?_
    have hh := Option.some.inj h
    subst hh
    refine NWp.opsE ⟨tab [(0, .loc 0 0 a0.length), (3, vi (i2 + 1))], stab [(0, .lst true (some 8) (List.map (eA8 (D.int .u16)) a0))], 1⟩ ?_ ?_
    ·
     refine q1 _ ?_
     refine step (v := vi (i2 + 1)) (st_inc (inc_ok hinv5 hgo4 hB3) rfl rfl) ?_
     refine q1 _ ?_
     exact nR [0]
    exact And.intro rfl rfl
  ·
   rintro i2 ⟨⟩ hinv5 hgo4
   show NWp _ _ _ _ _ ⟨tab [(0, .loc 0 0 a0.length), (3, vi i2)], stab [(0, .lst true (some 8) (List.map (eA8 (D.int .u16)) a0))], 1⟩
   have hc6 : ¬ (decide (i2 < (a0.length : Int)) = true) := fun hq => hgo4 (of_decide_eq_true hq)
   refine NWp.seq ?_
   refine NWp.opsJ ⟨tab [(0, .loc 0 0 a0.length), (3, vi i2), (13, vb (decide (i2 < (a0.length : Int))))], stab [(0, .lst true (some 8) (List.map (eA8 (D.int .u16)) a0))], 1⟩ ?_ ?_
   ·
    iterate 4 refine q1 _ ?_
    exact nR [0]
   refine NWp.condF (t := decide (i2 < (a0.length : Int))) rfl hc6 ?_
   refine NWp.norm (s0 := ⟨tab [(0, .loc 0 0 a0.length)], stab [(0, .lst true (some 8) (List.map (eA8 (D.int .u16)) a0))], 1⟩) (nr [0]) ?_
   refine NWp.exit ?_
   exact And.intro rfl rfl
  ·
   intro r' hq
   subst hq
   exact Option.some.inj h
  rintro ⟨⟩ rfl
  refine NWp.opsJ ⟨tab [(2, .loc 0 0 a0.length)], stab [(0, .lst true (some 8) (List.map (eA8 (D.int .u16)) a0))], 1⟩ ?_ ?_
  ·
   iterate 2 refine q1 _ ?_
   exact nR [0]
  have hh := Option.some.inj h
  subst hh
  refine NWp.ret ?_
  exact ⟨.inr rfl, _, rfl, rfl, AllS.sub ⟨rfl, trivial⟩, rfl⟩

theorem c_packet_Sort {a0 : (List (A8 Int))} {r : (List (A8 Int))} (h : packet_Sort a0 = some r) : PCall Try.prog 118 [eL (some 8) (eA8 (D.int .u16)) a0] (eL (some 8) (eA8 (D.int .u16)) r) := by
 refine PCall.introN ok118 (show 1 ≤ 9 by decide) ?_
 refine NWp.norm (s0 := ⟨tab [(0, .d (eL (some 8) (eA8 (D.int .u16)) a0))], stab [], 0⟩) (nr []) ?_
 refine NWp.opsJ ⟨tab [(0, .d (eL (some 8) (eA8 (D.int .u16)) a0))], stab [], 0⟩ ?_ ?_
 ·
  refine q1 _ ?_
  exact nR []
 obtain ⟨r1, hr1, h⟩ := bindE h
 refine NWp.opsJ ⟨tab [(0, .loc 0 0 r1.length)], stab [(0, .lst true (some 8) (List.map (eA8 (D.int .u16)) r1))], 1⟩ ?_ ?_
 ·
  refine q1 _ ?_
  refine stepW (v := .loc 0 0 r1.length) (σ' := (upd (stab []) 0 (some (.lst true (some 8) (List.map (eA8 (D.int .u16)) r1))))) (n' := 1) (SCall.lift [] (c_slices_Clone_api_Packet hr1) (show 0 ≤ 1 by decide) (by decide) (show ∀ i ∈ [], i < 0 by decide) (dom_c (show 0 < 1 by decide) dom_n) (VNs.c (.d _) VNs.nil0) SN.nil0) (show 0 ≤ 1 by decide) ?_
  refine q1 _ ?_
  exact nR [0]
 obtain ⟨r2, hr2, h⟩ := bindE h
 refine NWp.opsJ ⟨tab [(0, .loc 0 0 r2.length)], stab [(0, .lst true (some 8) (List.map (eA8 (D.int .u16)) r2))], 1⟩ ?_ ?_
 ·
  refine q1 _ ?_
  refine stepW (v := .d (.tup [])) (σ' := (upd (upd (stab [(0, .lst true (some 8) (List.map (eA8 (D.int .u16)) r1))]) 0 none) 0 (some (.lst true (some 8) (List.map (eA8 (D.int .u16)) r2))))) (n' := 1) (SCall.lift [0] (c_slices_SortFunc_api_Packet ⟨129, [], rfl, fun _ _ _ h => c_packet_Compare h⟩ hr2) (show 1 ≤ 1 by decide) (by decide) (show ∀ i ∈ [0], i < 1 by decide) (dom_c (show 0 < 1 by decide) dom_n) (VNs.c (.lc 0) (VNs.c (.d _) VNs.nil0)) (SN.c (show 0 < 1 by decide) rfl (.lst _ _ _) SN.nil0)) (show 1 ≤ 1 by decide) ?_
  exact RunOps.nil' (nm [0] ⟨.le (id := 0) (len_SortFunc hr2).symm (show 0 < 1 by decide), trivial⟩ ⟨⟨show 0 < 1 by decide, _, rfl, .lst _ _ _⟩, trivial⟩)
 obtain ⟨r3, hr3, h⟩ := bindE h
 refine NWp.opsJ ⟨tab [(2, .loc 0 0 r3.length)], stab [(0, .lst true (some 8) (List.map (eA8 (D.int .u16)) r3))], 1⟩ ?_ ?_
 ·
  refine q1 _ ?_
  refine stepW (v := .loc 0 0 r3.length) (σ' := (upd (upd (stab [(0, .lst true (some 8) (List.map (eA8 (D.int .u16)) r2))]) 0 none) 0 (some (.lst true (some 8) (List.map (eA8 (D.int .u16)) r3))))) (n' := 1) (SCall.lift [0] (c_slices_Compact_api_Packet hr3) (show 1 ≤ 1 by decide) (by decide) (show ∀ i ∈ [0], i < 1 by decide) (dom_c (show 0 < 1 by decide) dom_n) (VNs.c (.lc 0) VNs.nil0) (SN.c (show 0 < 1 by decide) rfl (.lst _ _ _) SN.nil0)) (show 1 ≤ 1 by decide) ?_
  refine q1 _ ?_
  exact nR [0]
 have hh := Option.some.inj h
 subst hh
 refine NWp.ret ?_
 show FQ _ _ _ _
 exact FQ.mk1 (.inr rfl) (res_t (v := .loc 0 0 r3.length) rfl rfl) (RV.loc (xs := r3) (e := (eA8 (D.int .u16))) rfl rfl trivial)

theorem c_table_made {a0 : (List (List api_Pair))} {a1 : (A8 Int)} {r : (List (A8 Int))} (h : table_made a0 a1 = some r) : PCall Try.prog 100 [eL none (eL (some 2) eapi_Pair) a0, eA8 (D.int .u16) a1] (eL (some 8) (eA8 (D.int .u16)) r) := by
 refine PCall.introN ok100 (show 2 ≤ 23 by decide) ?_
 refine NWp.norm (s0 := ⟨tab [(0, .d (eL none (eL (some 2) eapi_Pair) a0)), (1, .d (eA8 (D.int .u16) a1))], stab [], 0⟩) (nr []) ?_
 refine NWp.opsJ ⟨tab [(0, .d (eL none (eL (some 2) eapi_Pair) a0)), (3, .d (.cptr (some 8) (eA8 (D.int .u16) a1) 0))], stab [], 0⟩ ?_ ?_
 ·
  iterate 2 refine q1 _ ?_
  exact nR []
 refine NWp.opsJ ⟨tab [(0, .d (eL none (eL (some 2) eapi_Pair) a0)), (3, .d (.cptr (some 8) (eA8 (D.int .u16) a1) 0)), (5, .d (.nils))], stab [], 0⟩ ?_ ?_
 ·
  refine q1 _ ?_
  exact nR []
 refine NWp.seq ?_
 refine NWp.opsJ ⟨tab [(3, .d (.cptr (some 8) (eA8 (D.int .u16) a1) 0)), (5, .d (.nils)), (8, .d (eL none (eL (some 2) eapi_Pair) a0)), (9, vi (a0.length : Int)), (10, vi 0)], stab [], 0⟩ ?_ ?_
 ·
  refine q1 _ ?_
  refine step (v := vi (a0.length : Int)) (st_len (xs := a0) (e := (eL (some 2) eapi_Pair)) rfl) ?_
  refine q1 _ ?_
  exact nR []
 obtain ⟨z11, hl, h⟩ := bindE h
 refine NWp.norm (s0 := ⟨tab [(3, .d (.cptr (some 8) (eA8 (D.int .u16) a1) 0)), (5, .loc 0 0 (([] : List (A8 Int)).length)), (8, .d (eL none (eL (some 2) eapi_Pair) a0)), (9, vi (a0.length : Int)), (10, vi 0)], stab [(0, .lst false (some 8) (List.map (eA8 (D.int .u16)) ([] : List (A8 Int))))], 1⟩) (Norm.trans (s2 := ⟨tab [(3, .d (.cptr (some 8) (eA8 (D.int .u16) a1) 0)), (5, .loc 0 0 (([] : List (A8 Int)).length)), (8, .d (eL none (eL (some 2) eapi_Pair) a0)), (9, vi (a0.length : Int)), (10, vi 0)], stab [(0, .lst false (some 8) (List.map (eA8 (D.int .u16)) ([] : List (A8 Int))))], 1⟩) (Norm.nil1 5 false (some 8) rfl) (nr [0])) ?_
 refine NWp.block ?_
 refine loop_forO (cntU (a0.length : Int)) (fun (i2 : Int) (qq : (List (A8 Int))) => ⟨tab [(3, .d (.cptr (some 8) (eA8 (D.int .u16) a1) 0)), (5, .loc 0 0 qq.length), (8, .d (eL none (eL (some 2) eapi_Pair) a0)), (9, vi (a0.length : Int)), (10, vi i2)], stab [(0, .lst false (some 8) (List.map (eA8 (D.int .u16)) qq))], 1⟩) 0 (fun (qq : (List (A8 Int))) => ⟨tab [(5, .loc 0 0 qq.length)], stab [(0, .lst false (some 8) (List.map (eA8 (D.int .u16)) qq))], 1⟩) Low low_step hl (by unfold Low; omega) ?_ ?_ ?_
 ·
  rintro i2 l1 xr7 hinv5 hgo4 h
  show NWp _ _ _ _ _ ⟨tab [(3, .d (.cptr (some 8) (eA8 (D.int .u16) a1) 0)), (5, .loc 0 0 l1.length), (8, .d (eL none (eL (some 2) eapi_Pair) a0)), (9, vi (a0.length : Int)), (10, vi i2)], stab [(0, .lst false (some 8) (List.map (eA8 (D.int .u16)) l1))], 1⟩
  have hc6 : decide (i2 < (a0.length : Int)) = true := decide_eq_true hgo4
  refine NWp.opsJ ⟨tab [(3, .d (.cptr (some 8) (eA8 (D.int .u16) a1) 0)), (5, .loc 0 0 l1.length), (8, .d (eL none (eL (some 2) eapi_Pair) a0)), (9, vi (a0.length : Int)), (10, vi i2), (11, vb (decide (i2 < (a0.length : Int))))], stab [(0, .lst false (some 8) (List.map (eA8 (D.int .u16)) l1))], 1⟩ ?_ ?_
  ·
   refine q1 _ ?_
   exact nR [0]
  refine NWp.rng 9 rfl fun hB3 => ?_
  refine NWp.seq ?_
  refine NWp.condT (t := decide (i2 < (a0.length : Int))) rfl hc6 ?_
  refine NWp.skip ?_
  refine NWp.seq ?_
  refine NWp.block ?_
  obtain ⟨x8, hx8, h⟩ := bindE h
  refine NWp.opsJ ⟨tab [(3, .d (.cptr (some 8) (eA8 (D.int .u16) a1) 0)), (5, .loc 0 0 l1.length), (7, vl0 x8), (8, .d (eL none (eL (some 2) eapi_Pair) a0)), (9, vi (a0.length : Int)), (10, vi i2)], stab [(0, .lst false (some 8) (List.map (eA8 (D.int .u16)) l1))], 1⟩ ?_ ?_
  ·
   refine step (v := .d (.cptr none (eL (some 2) eapi_Pair x8) 0)) (st_iaddr (xs := a0) (e := (eL (some 2) eapi_Pair)) hx8 rfl rfl) ?_
   iterate 2 refine q1 _ ?_
   exact nR [0]
  obtain ⟨r9, hr9, h⟩ := bindE h
  obtain ⟨l10, hl10, h⟩ := bindE h
  refine NWp.opsE ⟨tab [(3, .d (.cptr (some 8) (eA8 (D.int .u16) a1) 0)), (5, .loc 0 0 l10.length), (8, .d (eL none (eL (some 2) eapi_Pair) a0)), (9, vi (a0.length : Int)), (10, vi i2)], stab [(0, .lst false (some 8) (List.map (eA8 (D.int .u16)) l10))], 1⟩ ?_ ?_
  ·
   iterate 3 refine q1 _ ?_
   refine stepC (r := eA8 (D.int .u16) r9) (ArgsOk.dt (ArgsOk.dt ArgsOk.nil')) (c_packet_Do hr9) ?_
   refine q1 _ ?_
   refine step (v := .loc 1 0 l10.length) (σ' := (upd (upd (stab [(0, .lst false (some 8) (List.map (eA8 (D.int .u16)) l1))]) 0 none) 1 (some (.lst false (some 8) (List.map (eA8 (D.int .u16)) l10))))) (n' := 2) (st_app (xs := l1) (ys := ([r9] : List (A8 Int))) (e := (eA8 (D.int .u16))) hl10 rfl rfl rfl (src_v (xs := ([r9] : List (A8 Int))) (e := (eA8 (D.int .u16))) rfl)) ?_
   refine q1 _ ?_
   exact nR [1]
  have hh := Option.some.inj h
  subst hh
  refine NWp.opsE ⟨tab [(3, .d (.cptr (some 8) (eA8 (D.int .u16) a1) 0)), (5, .loc 0 0 l10.length), (8, .d (eL none (eL (some 2) eapi_Pair) a0)), (9, vi (a0.length : Int)), (10, vi (i2 + 1))], stab [(0, .lst false (some 8) (List.map (eA8 (D.int .u16)) l10))], 1⟩ ?_ ?_
  ·
   refine step (v := vi (i2 + 1)) (st_inc (inc_ok hinv5 hgo4 hB3) rfl rfl) ?_
   refine q1 _ ?_
   exact nR [0]
  exact And.intro rfl rfl
 ·
  rintro i2 l1 hinv5 hgo4
  show NWp _ _ _ _ _ ⟨tab [(3, .d (.cptr (some 8) (eA8 (D.int .u16) a1) 0)), (5, .loc 0 0 l1.length), (8, .d (eL none (eL (some 2) eapi_Pair) a0)), (9, vi (a0.length : Int)), (10, vi i2)], stab [(0, .lst false (some 8) (List.map (eA8 (D.int .u16)) l1))], 1⟩
  have hc6 : ¬ (decide (i2 < (a0.length : Int)) = true) := fun hq => hgo4 (of_decide_eq_true hq)
  refine NWp.opsJ ⟨tab [(3, .d (.cptr (some 8) (eA8 (D.int .u16) a1) 0)), (5, .loc 0 0 l1.length), (8, .d (eL none (eL (some 2) eapi_Pair) a0)), (9, vi (a0.length : Int)), (10, vi i2), (11, vb (decide (i2 < (a0.length : Int))))], stab [(0, .lst false (some 8) (List.map (eA8 (D.int .u16)) l1))], 1⟩ ?_ ?_
  ·
   refine q1 _ ?_
   exact nR [0]
  refine NWp.seq ?_
  refine NWp.condF (t := decide (i2 < (a0.length : Int))) rfl hc6 ?_
  refine NWp.norm (s0 := ⟨tab [(5, .loc 0 0 l1.length)], stab [(0, .lst false (some 8) (List.map (eA8 (D.int .u16)) l1))], 1⟩) (nr [0]) ?_
  refine NWp.exit ?_
  exact And.intro rfl rfl
 obtain ⟨r12, hr12, h⟩ := bindE h
 refine NWp.opsJ ⟨tab [(4, .d (eL (some 8) (eA8 (D.int .u16)) r12))], stab [], 0⟩ ?_ ?_
 ·
  refine q1 _ ?_
  refine stepC (r := eL (some 8) (eA8 (D.int .u16)) r12) (ArgsOk.lcm (xs := z11) (e := (eA8 (D.int .u16))) rfl rfl ArgsOk.nil') (c_packet_Sort hr12) ?_
  refine q1 _ ?_
  exact nR []
 have hh := Option.some.inj h
 subst hh
 refine NWp.ret ?_
 show FQ _ _ _ _
 exact FQ.mk1 (.inr rfl) (res_t (v := .d (eL (some 8) (eA8 (D.int .u16)) r12)) rfl rfl) (RV.d trivial)

theorem c_table_Lookup {a0 : (List api_Row)} {a1 : (A8 Int)} {r : ((List (A8 Int)) × Int)} (h : table_Lookup a0 a1 = some r) : PCall Try.prog 83 [eL (some 2) eapi_Row a0, eA8 (D.int .u16) a1] (.tup [eL (some 8) (eA8 (D.int .u16)) r.1, .int .i64 r.2]) := by
 refine PCall.introN ok83 (show 2 ≤ 20 by decide) ?_
 refine NWp.norm (s0 := ⟨tab [(0, vl1 a0), (1, .d (eA8 (D.int .u16) a1))], stab [], 0⟩) (nr []) ?_
 refine NWp.opsJ ⟨tab [(0, vl1 a0), (3, .d (.cptr (some 8) (eA8 (D.int .u16) a1) 0))], stab [], 0⟩ ?_ ?_
 ·
  iterate 3 refine q1 _ ?_
  exact nR []
 obtain ⟨r1, hr1, h⟩ := bindE h
 refine NWp.opsJ ⟨tab [(0, vl1 a0), (3, .d (.cptr (some 8) (eA8 (D.int .u16) a1) 0)), (6, vi r1)], stab [], 0⟩ ?_ ?_
 ·
  iterate 2 refine q1 _ ?_
  refine stepC (r := .int .i64 r1) (ArgsOk.dt (ArgsOk.dt ArgsOk.nil')) (c_slices_IndexFunc_api_Row ⟨98, [.cptr (some 8) (eA8 (D.int .u16) a1) 0], rfl, fun _ _ h => c_table_Lookup_1 h⟩ hr1) ?_
  refine q1 _ ?_
  exact nR []
 refine NWp.seq ?_
 refine NWp.opsJ ⟨tab [(0, vl1 a0), (3, .d (.cptr (some 8) (eA8 (D.int .u16) a1) 0)), (6, vi r1), (11, vb (decide (r1 < 0)))], stab [], 0⟩ ?_ ?_
 ·
  iterate 2 refine q1 _ ?_
  exact nR []
 by_cases hc2 : decide (r1 < 0) = true
 ·
  replace h := iteT hc2 h
  refine NWp.condT (t := decide (r1 < 0)) rfl hc2 ?_
  refine NWp.opsJ ⟨tab [(4, .d (eL (some 8) (eA8 (D.int .u16)) ([] : List (A8 Int)))), (5, vi (-1))], stab [], 0⟩ ?_ ?_
  ·
   iterate 2 refine q1 _ ?_
   exact nR []
  have hh := Option.some.inj h
  subst hh
  refine NWp.ret ?_
  show FQ _ _ _ _
  exact FQ.mkT (.inr rfl) (res_t (v := .d (eL (some 8) (eA8 (D.int .u16)) ([] : List (A8 Int)))) rfl (res_t (v := vi (-1)) rfl rfl)) (RV.d (RV.d trivial))
 ·
  replace h := iteF hc2 h
  refine NWp.condF (t := decide (r1 < 0)) rfl hc2 ?_
  refine NWp.skip ?_
  obtain ⟨x3, hx3, h⟩ := bindE h
  obtain ⟨r4, hr4, h⟩ := bindE h
  refine NWp.opsJ ⟨tab [(4, .d (eL (some 8) (eA8 (D.int .u16)) r4)), (5, vi r1)], stab [], 0⟩ ?_ ?_
  ·
   iterate 2 refine q1 _ ?_
   refine step (v := vp2 x3) (st_iaddr (xs := a0) (e := eapi_Row) hx3 rfl rfl) ?_
   iterate 3 refine q1 _ ?_
   refine stepC (r := eL (some 8) (eA8 (D.int .u16)) r4) (ArgsOk.dt (ArgsOk.dt ArgsOk.nil')) (c_table_made hr4) ?_
   iterate 3 refine q1 _ ?_
   exact nR []
  have hh := Option.some.inj h
  subst hh
  refine NWp.ret ?_
  show FQ _ _ _ _
  exact FQ.mkT (.inr rfl) (res_t (v := .d (eL (some 8) (eA8 (D.int .u16)) r4)) rfl (res_t (v := vi r1) rfl rfl)) (RV.d (RV.d trivial))

theorem c_merge_Lookup {a0 : api_Table} {a1 : Int} {a2 : (A8 Int)} {r : ((List (A8 Int)) × Int)} (h : merge_Lookup a0 a1 a2 = some r) : PCall Try.prog 63 [eapi_Table a0, .int .u16 a1, eA8 (D.int .u16) a2] (.tup [eL (some 8) (eA8 (D.int .u16)) r.1, .int .i64 r.2]) := by
 refine PCall.introN ok63 (show 3 ≤ 27 by decide) ?_
 refine NWp.norm (s0 := ⟨tab [(0, vs2 a0), (1, vh a1), (2, .d (eA8 (D.int .u16) a2))], stab [], 0⟩) (nr []) ?_
 refine NWp.opsJ ⟨tab [(1, vh a1), (3, vp0 a0), (5, .d (.cptr (some 8) (eA8 (D.int .u16) a2) 0))], stab [], 0⟩ ?_ ?_
 ·
  iterate 4 refine q1 _ ?_
  exact nR []
 obtain ⟨r1, hr1, h⟩ := bindE h
 refine NWp.opsJ ⟨tab [(5, .d (.cptr (some 8) (eA8 (D.int .u16) a2) 0)), (8, vl1 r1.1), (9, vb r1.2)], stab [], 0⟩ ?_ ?_
 ·
  iterate 2 refine q1 _ ?_
  refine stepC (r := .tup [eL (some 2) eapi_Row r1.1, .bool r1.2]) (ArgsOk.dt (ArgsOk.dt ArgsOk.nil')) (c_merge_list hr1) ?_
  iterate 5 refine q1 _ ?_
  exact nR []
 refine NWp.seq ?_
 refine NWp.opsJ ⟨tab [(5, .d (.cptr (some 8) (eA8 (D.int .u16) a2) 0)), (8, vl1 r1.1), (19, vb (!r1.2))], stab [], 0⟩ ?_ ?_
 ·
  iterate 2 refine q1 _ ?_
  exact nR []
 by_cases hc2 : (!r1.2) = true
 ·
  replace h := iteT hc2 h
  refine NWp.condT (t := (!r1.2)) rfl hc2 ?_
  refine NWp.opsJ ⟨tab [(6, .d (eL (some 8) (eA8 (D.int .u16)) ([] : List (A8 Int)))), (7, vi 31)], stab [], 0⟩ ?_ ?_
  ·
   iterate 2 refine q1 _ ?_
   exact nR []
  have hh := Option.some.inj h
  subst hh
  refine NWp.ret ?_
  show FQ _ _ _ _
  exact FQ.mkT (.inr rfl) (res_t (v := .d (eL (some 8) (eA8 (D.int .u16)) ([] : List (A8 Int)))) rfl (res_t (v := vi 31) rfl rfl)) (RV.d (RV.d trivial))
 ·
  replace h := iteF hc2 h
  refine NWp.condF (t := (!r1.2)) rfl hc2 ?_
  refine NWp.skip ?_
  obtain ⟨r3, hr3, h⟩ := bindE h
  refine NWp.opsJ ⟨tab [(10, .d (eL (some 8) (eA8 (D.int .u16)) r3.1))], stab [], 0⟩ ?_ ?_
  ·
   iterate 2 refine q1 _ ?_
   refine stepC (r := .tup [eL (some 8) (eA8 (D.int .u16)) r3.1, .int .i64 r3.2]) (ArgsOk.dt (ArgsOk.dt ArgsOk.nil')) (c_table_Lookup hr3) ?_
   iterate 5 refine q1 _ ?_
   exact nR []
  refine NWp.opsJ ⟨tab [(6, .d (eL (some 8) (eA8 (D.int .u16)) r3.1)), (7, vi 0)], stab [], 0⟩ ?_ ?_
  ·
   iterate 3 refine q1 _ ?_
   exact nR []
  have hh := Option.some.inj h
  subst hh
  refine NWp.ret ?_
  show FQ _ _ _ _
  exact FQ.mkT (.inr rfl) (res_t (v := .d (eL (some 8) (eA8 (D.int .u16)) r3.1)) rfl (res_t (v := vi 0) rfl rfl)) (RV.d (RV.d trivial))

theorem c_slices_Equal_int {a0 : (List Int)} {a1 : (List Int)} {r : Bool} (h : slices_Equal_int a0 a1 = some r) : PCall Try.prog 84 [eL none (D.int .i64) a0, eL none (D.int .i64) a1] (.bool r) := by
 refine PCall.introN ok84 (show 2 ≤ 26 by decide) ?_
 refine NWp.norm (s0 := ⟨tab [(0, vl2 a0), (1, vl2 a1)], stab [], 0⟩) (nr []) ?_
 refine NWp.opsJ ⟨tab [(0, vl2 a0), (1, vl2 a1)], stab [], 0⟩ ?_ ?_
 ·
  refine q1 _ ?_
  exact nR []
 refine NWp.seq ?_
 refine NWp.opsJ ⟨tab [(0, vl2 a0), (1, vl2 a1), (10, vb ((a0.length : Int) != (a1.length : Int)))], stab [], 0⟩ ?_ ?_
 ·
  refine q1 _ ?_
  refine step (v := vi (a0.length : Int)) (st_len (xs := a0) (e := (D.int .i64)) rfl) ?_
  refine q1 _ ?_
  refine step (v := vi (a1.length : Int)) (st_len (xs := a1) (e := (D.int .i64)) rfl) ?_
  refine q1 _ ?_
  exact nR []
 by_cases hc1 : ((a0.length : Int) != (a1.length : Int)) = true
 ·
  replace h := iteT hc1 h
  refine NWp.condT (t := ((a0.length : Int) != (a1.length : Int))) rfl hc1 ?_
  refine NWp.opsJ ⟨tab [(4, vb false)], stab [], 0⟩ ?_ ?_
  ·
   refine q1 _ ?_
   exact nR []
  have hh := Option.some.inj h
  subst hh
  refine NWp.ret ?_
  show FQ _ _ _ _
  exact FQ.mk1 (.inr rfl) (res_t (v := vb false) rfl rfl) (RV.d trivial)
 ·
  replace h := iteF hc1 h
  refine NWp.condF (t := ((a0.length : Int) != (a1.length : Int))) rfl hc1 ?_
  refine NWp.skip ?_
  refine NWp.seq ?_
  refine NWp.opsJ ⟨tab [(0, vl2 a0), (1, vl2 a1), (12, vi (a0.length : Int)), (13, vi 0)], stab [], 0⟩ ?_ ?_
  ·
   refine q1 _ ?_
   refine step (v := vi (a0.length : Int)) (st_len (xs := a0) (e := (D.int .i64)) rfl) ?_
   refine q1 _ ?_
   exact nR []
  obtain ⟨q11, hl, h⟩ := bindE h
  refine NWp.block ?_
  refine loop_forR (cntU (a0.length : Int)) (fun (i2 : Int) (qq : Unit) => ⟨tab [(0, vl2 a0), (1, vl2 a1), (12, vi (a0.length : Int)), (13, vi i2)], stab [], 0⟩) 0 (fun (qq : Unit) => ⟨tab [], stab [], 0⟩) Low low_step (r := r) hl (by unfold Low; omega) ?_ ?_ ?_ ?_
  ·
   rintro i2 ⟨⟩ xr7 hinv5 hgo4 h
   show NWp _ _ _ _ _ ⟨tab [(0, vl2 a0), (1, vl2 a1), (12, vi (a0.length : Int)), (13, vi i2)], stab [], 0⟩
   have hc6 : decide (i2 < (a0.length : Int)) = true := decide_eq_true hgo4
   refine NWp.opsJ ⟨tab [(0, vl2 a0), (1, vl2 a1), (12, vi (a0.length : Int)), (13, vi i2), (14, vb (decide (i2 < (a0.length : Int))))], stab [], 0⟩ ?_ ?_
   ·
    refine q1 _ ?_
    exact nR []
   refine NWp.rng 12 rfl fun hB3 => ?_
   refine NWp.seq ?_
   refine NWp.condT (t := decide (i2 < (a0.length : Int))) rfl hc6 ?_
   refine NWp.skip ?_
   refine NWp.seq ?_
   refine NWp.block ?_
   refine NWp.opsJ ⟨tab [(0, vl2 a0), (1, vl2 a1), (5, vi i2), (12, vi (a0.length : Int)), (13, vi i2)], stab [], 0⟩ ?_ ?_
   ·
    iterate 2 refine q1 _ ?_
    exact nR []
   obtain ⟨x8, hx8, h⟩ := bindE h
   obtain ⟨x9, hx9, h⟩ := bindE h
   refine NWp.opsJ ⟨tab [(0, vl2 a0), (1, vl2 a1), (12, vi (a0.length : Int)), (13, vi i2), (24, vb (x8 != x9))], stab [], 0⟩ ?_ ?_
   ·
    iterate 2 refine q1 _ ?_
    refine step (v := .d (.cptr none (.int .i64 x8) 0)) (st_iaddr (xs := a0) (e := (D.int .i64)) hx8 rfl rfl) ?_
    iterate 3 refine q1 _ ?_
    refine step (v := .d (.cptr none (.int .i64 x9) 0)) (st_iaddr (xs := a1) (e := (D.int .i64)) hx9 rfl rfl) ?_
    iterate 2 refine q1 _ ?_
    exact nR []
   by_cases hc10 : (x8 != x9) = true
   ·
    replace h := iteT hc10 h
    refine NWp.condT (t := (x8 != x9)) rfl hc10 ?_
    refine NWp.opsJ ⟨tab [(4, vb false)], stab [], 0⟩ ?_ ?_
    ·
     refine q1 _ ?_
     exact nR []
    obtain ⟨r11, kr11, hr⟩ := mapE (o := some false) (g := Br.ret) h
    subst hr
    have h := kr11
    have hh := Option.some.inj h
    subst hh
    refine NWp.ret ?_
    refine And.intro (fun hn => nomatch hn) ?_
    intro hq
    have hq := hq.symm
    subst hq
    show FQ _ _ _ _
    exact FQ.mk1 (.inr rfl) (res_t (v := vb false) rfl rfl) (RV.d trivial)
   ·
    replace h := iteF hc10 h
    refine NWp.condF (t := (x8 != x9)) rfl hc10 ?_
    refine NWp.skip ?_
    have hh := Option.some.inj h
    subst hh
    refine NWp.opsE ⟨tab [(0, vl2 a0), (1, vl2 a1), (12, vi (a0.length : Int)), (13, vi (i2 + 1))], stab [], 0⟩ ?_ ?_
    ·
     refine step (v := vi (i2 + 1)) (st_inc (inc_ok hinv5 hgo4 hB3) rfl rfl) ?_
     refine q1 _ ?_
     exact nR []
    exact And.intro rfl rfl
  ·
   rintro i2 ⟨⟩ hinv5 hgo4
   show NWp _ _ _ _ _ ⟨tab [(0, vl2 a0), (1, vl2 a1), (12, vi (a0.length : Int)), (13, vi i2)], stab [], 0⟩
   have hc6 : ¬ (decide (i2 < (a0.length : Int)) = true) := fun hq => hgo4 (of_decide_eq_true hq)
   refine NWp.opsJ ⟨tab [(0, vl2 a0), (1, vl2 a1), (12, vi (a0.length : Int)), (13, vi i2), (14, vb (decide (i2 < (a0.length : Int))))], stab [], 0⟩ ?_ ?_
   ·
    refine q1 _ ?_
    exact nR []
   refine NWp.seq ?_
   refine NWp.condF (t := decide (i2 < (a0.length : Int))) rfl hc6 ?_
   refine NWp.norm (s0 := ⟨tab [], stab [], 0⟩) (nr []) ?_
   refine NWp.exit ?_
   exact And.intro rfl rfl
  ·
   intro r' hq
   subst hq
   exact Option.some.inj h
  rintro ⟨⟩ rfl
  refine NWp.opsJ ⟨tab [(4, vb true)], stab [], 0⟩ ?_ ?_
  ·
   refine q1 _ ?_
   exact nR []
  have hh := Option.some.inj h
  subst hh
  refine NWp.ret ?_
  show FQ _ _ _ _
  exact FQ.mk1 (.inr rfl) (res_t (v := vb true) rfl rfl) (RV.d trivial)

theorem c_slices_EqualFunc_Lapi_Row {a0 : (List (List api_Row))} {a1 : (List (List api_Row))} {a2 : (List api_Row) → (List api_Row) → Option Bool} {g_a2 : D} (hf_a2 : Fn2 Try.prog g_a2 (eL (some 2) eapi_Row) (eL (some 2) eapi_Row) D.bool a2) {r : Bool} (h : slices_EqualFunc_Lapi_Row a0 a1 a2 = some r) : PCall Try.prog 85 [eL none (eL (some 2) eapi_Row) a0, eL none (eL (some 2) eapi_Row) a1, g_a2] (.bool r) := by
 obtain ⟨fn_a2, cap_a2, rfl, hc_a2⟩ := hf_a2
 refine PCall.introN ok85 (show 3 ≤ 32 by decide) ?_
 refine NWp.norm (s0 := ⟨tab [(0, .d (eL none (eL (some 2) eapi_Row) a0)), (1, .d (eL none (eL (some 2) eapi_Row) a1)), (2, .d (.func fn_a2 cap_a2))], stab [], 0⟩) (nr []) ?_
 refine NWp.opsJ ⟨tab [(0, .d (eL none (eL (some 2) eapi_Row) a0)), (1, .d (eL none (eL (some 2) eapi_Row) a1)), (2, .d (.func fn_a2 cap_a2))], stab [], 0⟩ ?_ ?_
 ·
  refine q1 _ ?_
  exact nR []
 refine NWp.seq ?_
 refine NWp.opsJ ⟨tab [(0, .d (eL none (eL (some 2) eapi_Row) a0)), (1, .d (eL none (eL (some 2) eapi_Row) a1)), (2, .d (.func fn_a2 cap_a2)), (14, vb ((a0.length : Int) != (a1.length : Int)))], stab [], 0⟩ ?_ ?_
 ·
  refine q1 _ ?_
  refine step (v := vi (a0.length : Int)) (st_len (xs := a0) (e := (eL (some 2) eapi_Row)) rfl) ?_
  refine q1 _ ?_
  refine step (v := vi (a1.length : Int)) (st_len (xs := a1) (e := (eL (some 2) eapi_Row)) rfl) ?_
  refine q1 _ ?_
  exact nR []
 by_cases hc1 : ((a0.length : Int) != (a1.length : Int)) = true
 ·
  replace h := iteT hc1 h
  refine NWp.condT (t := ((a0.length : Int) != (a1.length : Int))) rfl hc1 ?_
  refine NWp.opsJ ⟨tab [(6, vb false)], stab [], 0⟩ ?_ ?_
  ·
   refine q1 _ ?_
   exact nR []
  have hh := Option.some.inj h
  subst hh
  refine NWp.ret ?_
  show FQ _ _ _ _
  exact FQ.mk1 (.inr rfl) (res_t (v := vb false) rfl rfl) (RV.d trivial)
 ·
  replace h := iteF hc1 h
  refine NWp.condF (t := ((a0.length : Int) != (a1.length : Int))) rfl hc1 ?_
  refine NWp.skip ?_
  refine NWp.seq ?_
  refine NWp.opsJ ⟨tab [(1, .d (eL none (eL (some 2) eapi_Row) a1)), (2, .d (.func fn_a2 cap_a2)), (15, .d (eL none (eL (some 2) eapi_Row) a0)), (16, vi (a0.length : Int)), (17, vi 0)], stab [], 0⟩ ?_ ?_
  ·
   refine q1 _ ?_
   refine step (v := vi (a0.length : Int)) (st_len (xs := a0) (e := (eL (some 2) eapi_Row)) rfl) ?_
   refine q1 _ ?_
   exact nR []
  obtain ⟨q12, hl, h⟩ := bindE h
  refine NWp.block ?_
  refine loop_forR (cntU (a0.length : Int)) (fun (i2 : Int) (qq : Unit) => ⟨tab [(1, .d (eL none (eL (some 2) eapi_Row) a1)), (2, .d (.func fn_a2 cap_a2)), (15, .d (eL none (eL (some 2) eapi_Row) a0)), (16, vi (a0.length : Int)), (17, vi i2)], stab [], 0⟩) 0 (fun (qq : Unit) => ⟨tab [], stab [], 0⟩) Low low_step (r := r) hl (by unfold Low; omega) ?_ ?_ ?_ ?_
  ·
   rintro i2 ⟨⟩ xr7 hinv5 hgo4 h
   show NWp _ _ _ _ _ ⟨tab [(1, .d (eL none (eL (some 2) eapi_Row) a1)), (2, .d (.func fn_a2 cap_a2)), (15, .d (eL none (eL (some 2) eapi_Row) a0)), (16, vi (a0.length : Int)), (17, vi i2)], stab [], 0⟩
   have hc6 : decide (i2 < (a0.length : Int)) = true := decide_eq_true hgo4
   refine NWp.opsJ ⟨tab [(1, .d (eL none (eL (some 2) eapi_Row) a1)), (2, .d (.func fn_a2 cap_a2)), (15, .d (eL none (eL (some 2) eapi_Row) a0)), (16, vi (a0.length : Int)), (17, vi i2), (18, vb (decide (i2 < (a0.length : Int))))], stab [], 0⟩ ?_ ?_
   ·
    refine q1 _ ?_
    exact nR []
   refine NWp.rng 16 rfl fun hB3 => ?_
   refine NWp.seq ?_
   refine NWp.condT (t := decide (i2 < (a0.length : Int))) rfl hc6 ?_
   refine NWp.skip ?_
   refine NWp.seq ?_
   refine NWp.block ?_
   obtain ⟨x8, hx8, h⟩ := bindE h
   refine NWp.opsJ ⟨tab [(1, .d (eL none (eL (some 2) eapi_Row) a1)), (2, .d (.func fn_a2 cap_a2)), (7, vi i2), (8, vl1 x8), (15, .d (eL none (eL (some 2) eapi_Row) a0)), (16, vi (a0.length : Int)), (17, vi i2)], stab [], 0⟩ ?_ ?_
   ·
    refine q1 _ ?_
    refine step (v := .d (.cptr none (eL (some 2) eapi_Row x8) 0)) (st_iaddr (xs := a0) (e := (eL (some 2) eapi_Row)) hx8 rfl rfl) ?_
    iterate 3 refine q1 _ ?_
    exact nR []
   obtain ⟨x9, hx9, h⟩ := bindE h
   refine NWp.opsJ ⟨tab [(1, .d (eL none (eL (some 2) eapi_Row) a1)), (2, .d (.func fn_a2 cap_a2)), (8, vl1 x8), (9, vl1 x9), (15, .d (eL none (eL (some 2) eapi_Row) a0)), (16, vi (a0.length : Int)), (17, vi i2)], stab [], 0⟩ ?_ ?_
   ·
    iterate 2 refine q1 _ ?_
    refine step (v := .d (.cptr none (eL (some 2) eapi_Row x9) 0)) (st_iaddr (xs := a1) (e := (eL (some 2) eapi_Row)) hx9 rfl rfl) ?_
    iterate 2 refine q1 _ ?_
    exact nR []
   obtain ⟨x10, hx10, h⟩ := bindE h
   refine NWp.opsJ ⟨tab [(1, .d (eL none (eL (some 2) eapi_Row) a1)), (2, .d (.func fn_a2 cap_a2)), (15, .d (eL none (eL (some 2) eapi_Row) a0)), (16, vi (a0.length : Int)), (17, vi i2), (30, vb (!x10))], stab [], 0⟩ ?_ ?_
   ·
    iterate 3 refine q1 _ ?_
    refine stepV' (r := .bool x10) rfl (ArgsOk.dt (ArgsOk.dt ArgsOk.nil')) (hc_a2 _ _ _ hx10) ?_
    refine q1 _ ?_
    exact nR []
   by_cases hc11 : (!x10) = true
   ·
    replace h := iteT hc11 h
    refine NWp.condT (t := (!x10)) rfl hc11 ?_
    refine NWp.opsJ ⟨tab [(6, vb false)], stab [], 0⟩ ?_ ?_
    ·
     refine q1 _ ?_
     exact nR []
    obtain ⟨r12, kr12, hr⟩ := mapE (o := some false) (g := Br.ret) h
    subst hr
    have h := kr12
    have hh := Option.some.inj h
    subst hh
    refine NWp.ret ?_
    refine And.intro (fun hn => nomatch hn) ?_
    intro hq
    have hq := hq.symm
    subst hq
    show FQ _ _ _ _
    exact FQ.mk1 (.inr rfl) (res_t (v := vb false) rfl rfl) (RV.d trivial)
   ·
    replace h := iteF hc11 h
    refine NWp.condF (t := (!x10)) rfl hc11 ?_
    refine NWp.skip ?_
    have hh := Option.some.inj h
    subst hh
    refine NWp.opsE ⟨tab [(1, .d (eL none (eL (some 2) eapi_Row) a1)), (2, .d (.func fn_a2 cap_a2)), (15, .d (eL none (eL (some 2) eapi_Row) a0)), (16, vi (a0.length : Int)), (17, vi (i2 + 1))], stab [], 0⟩ ?_ ?_
    ·
     refine step (v := vi (i2 + 1)) (st_inc (inc_ok hinv5 hgo4 hB3) rfl rfl) ?_
     refine q1 _ ?_
     exact nR []
    exact And.intro rfl rfl
  ·
   rintro i2 ⟨⟩ hinv5 hgo4
   show NWp _ _ _ _ _ ⟨tab [(1, .d (eL none (eL (some 2) eapi_Row) a1)), (2, .d (.func fn_a2 cap_a2)), (15, .d (eL none (eL (some 2) eapi_Row) a0)), (16, vi (a0.length : Int)), (17, vi i2)], stab [], 0⟩
   have hc6 : ¬ (decide (i2 < (a0.length : Int)) = true) := fun hq => hgo4 (of_decide_eq_true hq)
   refine NWp.opsJ ⟨tab [(1, .d (eL none (eL (some 2) eapi_Row) a1)), (2, .d (.func fn_a2 cap_a2)), (15, .d (eL none (eL (some 2) eapi_Row) a0)), (16, vi (a0.length : Int)), (17, vi i2), (18, vb (decide (i2 < (a0.length : Int))))], stab [], 0⟩ ?_ ?_
   ·
    refine q1 _ ?_
    exact nR []
   refine NWp.seq ?_
   refine NWp.condF (t := decide (i2 < (a0.length : Int))) rfl hc6 ?_
   refine NWp.norm (s0 := ⟨tab [], stab [], 0⟩) (nr []) ?_
   refine NWp.exit ?_
   exact And.intro rfl rfl
  ·
   intro r' hq
   subst hq
   exact Option.some.inj h
  rintro ⟨⟩ rfl
  refine NWp.opsJ ⟨tab [(6, vb true)], stab [], 0⟩ ?_ ?_
  ·
   refine q1 _ ?_
   exact nR []
  have hh := Option.some.inj h
  subst hh
  refine NWp.ret ?_
  show FQ _ _ _ _
  exact FQ.mk1 (.inr rfl) (res_t (v := vb true) rfl rfl) (RV.d trivial)

theorem c_merge_Right {a0 : api_Table} {r : Bool} (h : merge_Right a0 = some r) : PCall Try.prog 64 [eapi_Table a0] (.bool r) := by
 refine PCall.introN ok64 (show 1 ≤ 54 by decide) ?_
 refine NWp.norm (s0 := ⟨tab [(0, vs2 a0)], stab [], 0⟩) (nr []) ?_
 refine NWp.opsJ ⟨tab [(1, vp0 a0)], stab [], 0⟩ ?_ ?_
 ·
  iterate 2 refine q1 _ ?_
  exact nR []
 refine NWp.opsJ ⟨tab [(1, vp0 a0), (3, .d (.nils))], stab [], 0⟩ ?_ ?_
 ·
  refine q1 _ ?_
  exact nR []
 refine NWp.seq ?_
 refine NWp.opsJ ⟨tab [(1, vp0 a0), (3, .d (.nils)), (11, vi (a0.Which.length : Int)), (12, vi 0)], stab [], 0⟩ ?_ ?_
 ·
  iterate 2 refine q1 _ ?_
  refine step (v := vi (a0.Which.length : Int)) (st_len (xs := a0.Which) (e := (D.int .i64)) rfl) ?_
  refine q1 _ ?_
  exact nR []
 obtain ⟨q20, hl, h⟩ := bindE h
 refine NWp.norm (s0 := ⟨tab [(1, vp0 a0), (3, .loc 0 0 (([] : List (List api_Row)).length)), (11, vi (a0.Which.length : Int)), (12, vi 0)], stab [(0, .lst false none (List.map (eL (some 2) eapi_Row) ([] : List (List api_Row))))], 1⟩) (Norm.trans (s2 := ⟨tab [(1, vp0 a0), (3, .loc 0 0 (([] : List (List api_Row)).length)), (11, vi (a0.Which.length : Int)), (12, vi 0)], stab [(0, .lst false none (List.map (eL (some 2) eapi_Row) ([] : List (List api_Row))))], 1⟩) (Norm.nil1 3 false none rfl) (nr [0])) ?_
 refine NWp.block ?_
 refine loop_forR (cntU (a0.Which.length : Int)) (fun (i2 : Int) (qq : (List (List api_Row))) => ⟨tab [(1, vp0 a0), (3, .loc 0 0 qq.length), (11, vi (a0.Which.length : Int)), (12, vi i2)], stab [(0, .lst false none (List.map (eL (some 2) eapi_Row) qq))], 1⟩) 0 (fun (qq : (List (List api_Row))) => ⟨tab [(1, vp0 a0), (3, .loc 0 0 qq.length)], stab [(0, .lst false none (List.map (eL (some 2) eapi_Row) qq))], 1⟩) Low low_step (r := r) hl (by unfold Low; omega) ?_ ?_ ?_ ?_
 ·
  rintro i2 l1 xr7 hinv5 hgo4 h
  show NWp _ _ _ _ _ ⟨tab [(1, vp0 a0), (3, .loc 0 0 l1.length), (11, vi (a0.Which.length : Int)), (12, vi i2)], stab [(0, .lst false none (List.map (eL (some 2) eapi_Row) l1))], 1⟩
  have hc6 : decide (i2 < (a0.Which.length : Int)) = true := decide_eq_true hgo4
  refine NWp.opsJ ⟨tab [(1, vp0 a0), (3, .loc 0 0 l1.length), (11, vi (a0.Which.length : Int)), (12, vi i2), (13, vb (decide (i2 < (a0.Which.length : Int))))], stab [(0, .lst false none (List.map (eL (some 2) eapi_Row) l1))], 1⟩ ?_ ?_
  ·
   refine q1 _ ?_
   exact nR [0]
  refine NWp.rng 11 rfl fun hB3 => ?_
  refine NWp.seq ?_
  refine NWp.condT (t := decide (i2 < (a0.Which.length : Int))) rfl hc6 ?_
  refine NWp.skip ?_
  refine NWp.seq ?_
  refine NWp.block ?_
  refine NWp.opsJ ⟨tab [(1, vp0 a0), (3, .loc 0 0 l1.length), (4, vi i2), (11, vi (a0.Which.length : Int)), (12, vi i2)], stab [(0, .lst false none (List.map (eL (some 2) eapi_Row) l1))], 1⟩ ?_ ?_
  ·
   iterate 2 refine q1 _ ?_
   exact nR [0]
  obtain ⟨r8, hr8, h⟩ := bindE h
  refine NWp.opsJ ⟨tab [(1, vp0 a0), (3, .loc 0 0 l1.length), (4, vi i2), (5, vl1 r8.1), (6, vb r8.2), (11, vi (a0.Which.length : Int)), (12, vi i2)], stab [(0, .lst false none (List.map (eL (some 2) eapi_Row) l1))], 1⟩ ?_ ?_
  ·
   iterate 3 refine q1 _ ?_
   refine stepC (r := .tup [eL (some 2) eapi_Row r8.1, .bool r8.2]) (ArgsOk.dt (ArgsOk.dt ArgsOk.nil')) (c_merge_list hr8) ?_
   iterate 5 refine q1 _ ?_
   exact nR [0]
  refine NWp.seq ?_
  refine NWp.opsJ ⟨tab [(1, vp0 a0), (3, .loc 0 0 l1.length), (5, vl1 r8.1), (11, vi (a0.Which.length : Int)), (12, vi i2), (27, vb ((!r8.2) || (decide (i2 > 256))))], stab [(0, .lst false none (List.map (eL (some 2) eapi_Row) l1))], 1⟩ ?_ ?_
  ·
   iterate 3 refine q1 _ ?_
   by_cases hg9 : (!r8.2) = true
   ·
    iterate 2 refine qX (!r8.2) (by rw [hg9]; decide) ?_
    refine step (v := vb true) (st_pickT (b := (!r8.2)) rfl hg9 rfl) ?_
    exact RunOps.nil' (nm [0] ⟨.d _, .lc 0, .d _, .d _, .d _, .eq (by first | (simp [hg9]; done) | (simp_all; done) | grind), trivial⟩ ⟨⟨show 0 < 1 by decide, _, rfl, .lst _ _ _⟩, trivial⟩)
   ·
    refine qG (!r8.2) (Bool.eq_false_iff.2 hg9) ?_
    refine q1 _ ?_
    refine qG (!r8.2) (Bool.eq_false_iff.2 hg9) ?_
    refine q1 _ ?_
    refine step (v := vb (decide (i2 > 256))) (st_pickF (b := (!r8.2)) rfl hg9 rfl) ?_
    exact RunOps.nil' (nm [0] ⟨.d _, .lc 0, .d _, .d _, .d _, .eq (by first | (simp [hg9]; done) | (simp_all; done) | grind), trivial⟩ ⟨⟨show 0 < 1 by decide, _, rfl, .lst _ _ _⟩, trivial⟩)
  by_cases hc10 : ((!r8.2) || (decide (i2 > 256))) = true
  ·
   replace h := iteT hc10 h
   refine NWp.condT (t := ((!r8.2) || (decide (i2 > 256)))) rfl hc10 ?_
   refine NWp.opsJ ⟨tab [(2, vb false)], stab [], 0⟩ ?_ ?_
   ·
    refine q1 _ ?_
    exact nR []
   obtain ⟨r11, kr11, hr⟩ := mapE (o := some false) (g := Br.ret) h
   subst hr
   have h := kr11
   have hh := Option.some.inj h
   subst hh
   refine NWp.ret ?_
   refine And.intro (fun hn => nomatch hn) ?_
   intro hq
   have hq := hq.symm
   subst hq
   show FQ _ _ _ _
   exact FQ.mk1 (.inr rfl) (res_t (v := vb false) rfl rfl) (RV.d trivial)
  ·
   replace h := iteF hc10 h
   refine NWp.condF (t := ((!r8.2) || (decide (i2 > 256)))) rfl hc10 ?_
   refine NWp.skip ?_
   obtain ⟨l11, hl11, h⟩ := bindE h
   refine NWp.opsE ⟨tab [(1, vp0 a0), (3, .loc 0 0 l11.length), (11, vi (a0.Which.length : Int)), (12, vi i2)], stab [(0, .lst false none (List.map (eL (some 2) eapi_Row) l11))], 1⟩ ?_ ?_
   ·
    iterate 3 refine q1 _ ?_
    refine step (v := .loc 1 0 l11.length) (σ' := (upd (upd (stab [(0, .lst false none (List.map (eL (some 2) eapi_Row) l1))]) 0 none) 1 (some (.lst false none (List.map (eL (some 2) eapi_Row) l11))))) (n' := 2) (st_app (xs := l1) (ys := ([r8.1] : List (List api_Row))) (e := (eL (some 2) eapi_Row)) hl11 rfl rfl rfl (src_v (xs := ([r8.1] : List (List api_Row))) (e := (eL (some 2) eapi_Row)) rfl)) ?_
    refine q1 _ ?_
    exact nR [1]
   have hh := Option.some.inj h
   subst hh
   refine NWp.opsE ⟨tab [(1, vp0 a0), (3, .loc 0 0 l11.length), (11, vi (a0.Which.length : Int)), (12, vi (i2 + 1))], stab [(0, .lst false none (List.map (eL (some 2) eapi_Row) l11))], 1⟩ ?_ ?_
   ·
    refine step (v := vi (i2 + 1)) (st_inc (inc_ok hinv5 hgo4 hB3) rfl rfl) ?_
    refine q1 _ ?_
    exact nR [0]
   exact And.intro rfl rfl
 ·
  rintro i2 l1 hinv5 hgo4
  show NWp _ _ _ _ _ ⟨tab [(1, vp0 a0), (3, .loc 0 0 l1.length), (11, vi (a0.Which.length : Int)), (12, vi i2)], stab [(0, .lst false none (List.map (eL (some 2) eapi_Row) l1))], 1⟩
  have hc6 : ¬ (decide (i2 < (a0.Which.length : Int)) = true) := fun hq => hgo4 (of_decide_eq_true hq)
  refine NWp.opsJ ⟨tab [(1, vp0 a0), (3, .loc 0 0 l1.length), (11, vi (a0.Which.length : Int)), (12, vi i2), (13, vb (decide (i2 < (a0.Which.length : Int))))], stab [(0, .lst false none (List.map (eL (some 2) eapi_Row) l1))], 1⟩ ?_ ?_
  ·
   refine q1 _ ?_
   exact nR [0]
  refine NWp.seq ?_
  refine NWp.condF (t := decide (i2 < (a0.Which.length : Int))) rfl hc6 ?_
  refine NWp.norm (s0 := ⟨tab [(1, vp0 a0), (3, .loc 0 0 l1.length)], stab [(0, .lst false none (List.map (eL (some 2) eapi_Row) l1))], 1⟩) (nr [0]) ?_
  refine NWp.exit ?_
  exact And.intro rfl rfl
 ·
  intro r' hq
  subst hq
  exact Option.some.inj h
 rintro z12 rfl
 obtain ⟨r13, hr13, h⟩ := bindE h
 refine NWp.opsJ ⟨tab [(1, vp0 a0), (7, .ptr 0 0 0), (8, vi r13.2)], stab [(0, .var [vl2 r13.1.Which, .d (eL none (eL (some 2) eapi_Row) r13.1.Lists)])], 1⟩ ?_ ?_
 ·
  refine q1 _ ?_
  refine stepC (r := .tup [eapi_Table r13.1, .int .i64 r13.2]) (ArgsOk.lcm (xs := z12) (e := (eL (some 2) eapi_Row)) rfl rfl ArgsOk.nil') (c_merge_Of hr13) ?_
  iterate 3 refine q1 _ ?_
  refine step (v := .ptr 1 0 0) (σ' := (upd (stab [(0, .lst false none (List.map (eL (some 2) eapi_Row) z12))]) 1 (some (.var [vl2 [], .d (eL none (eL (some 2) eapi_Row) [])])))) (n' := 2) rfl ?_
  refine step (v := V.undef) (σ' := (upd (upd (stab [(0, .lst false none (List.map (eL (some 2) eapi_Row) z12))]) 1 (some (.var [vl2 [], .d (eL none (eL (some 2) eapi_Row) [])]))) 1 (some (.var [vl2 r13.1.Which, .d (eL none (eL (some 2) eapi_Row) r13.1.Lists)])))) (n' := 2) rfl ?_
  refine q1 _ ?_
  exact nR [1]
 obtain ⟨y18, hv, h⟩ := bindE h
 refine NWp.opsJ ⟨tab [(2, vb y18)], stab [], 0⟩ ?_ ?_
 ·
  iterate 3 refine q1 _ ?_
  by_cases hg14 : (r13.2 == 0) = true
  ·
   replace hv := iteT hg14 hv
   obtain ⟨r15, hr15, hv⟩ := bindE hv
   refine qG _ hg14 ?_
   refine q1 _ ?_
   refine qG _ hg14 ?_
   refine q1 _ ?_
   refine qG _ hg14 ?_
   refine q1 _ ?_
   refine qG _ hg14 ?_
   refine q1 _ ?_
   refine qG _ hg14 ?_
   refine stepC (r := .bool r15) (ArgsOk.dt (ArgsOk.dt ArgsOk.nil')) (c_slices_Equal_int hr15) ?_
   refine step (v := vb r15) (st_pickT (b := (r13.2 == 0)) rfl hg14 rfl) ?_
   refine q1 _ ?_
   by_cases hg16 : r15 = true
   ·
    replace hv := iteT hg16 hv
    obtain ⟨r17, hr17, hv⟩ := bindE hv
    refine qG _ hg16 ?_
    refine q1 _ ?_
    refine qG _ hg16 ?_
    refine q1 _ ?_
    refine qG _ hg16 ?_
    refine q1 _ ?_
    refine qG _ hg16 ?_
    refine q1 _ ?_
    refine qG _ hg16 ?_
    refine stepC (r := .bool r17) (ArgsOk.dt (ArgsOk.dt (ArgsOk.dt ArgsOk.nil'))) (c_slices_EqualFunc_Lapi_Row ⟨67, [], rfl, fun _ _ _ h => c_table_Same h⟩ hr17) ?_
    refine step (v := vb r17) (st_pickT (b := r15) rfl hg16 rfl) ?_
    refine q1 _ ?_
    have hh := Option.some.inj hv
    subst hh
    exact nR []
   ·
    replace hv := iteF hg16 hv
    iterate 5 refine qX _ hg16 ?_
    refine step (v := vb false) (st_pickF (b := r15) rfl hg16 rfl) ?_
    refine q1 _ ?_
    have hh := Option.some.inj hv
    subst hh
    exact nR []
  ·
   replace hv := iteF hg14 hv
   iterate 5 refine qX _ hg14 ?_
   refine step (v := vb false) (st_pickF (b := (r13.2 == 0)) rfl hg14 rfl) ?_
   refine q1 _ ?_
   iterate 5 refine qX false (by decide) ?_
   refine step (v := vb false) (st_pickF (b := false) rfl (by decide) rfl) ?_
   refine q1 _ ?_
   have hh := Option.some.inj hv
   subst hh
   exact nR []
 have hh := Option.some.inj h
 subst hh
 refine NWp.ret ?_
 show FQ _ _ _ _
 exact FQ.mk1 (.inr rfl) (res_t (v := vb y18) rfl rfl) (RV.d trivial)

theorem c_law10_awake  {r : Bool} (h : law10_awake  = some r) : PCall Try.prog 37 [] (.bool r) := by
 refine PCall.introN ok37 (show 0 ≤ 86 by decide) ?_
 refine NWp.norm (s0 := ⟨tab [], stab [], 0⟩) (nr []) ?_
 refine NWp.opsJ ⟨tab [], stab [], 0⟩ ?_ ?_
 ·
  refine q1 _ ?_
  exact nR []
 refine NWp.opsJ ⟨tab [(1, vl1 ([(api_Row.mk [] ([([(api_Pair.mk 1 2)] : List api_Pair)] : List (List api_Pair)))] : List api_Row)), (2, vl1 ([(api_Row.mk [] [])] : List api_Row))], stab [], 0⟩ ?_ ?_
 ·
  refine step (v := .d (eapi_Pair (api_Pair.mk 1 2))) (st_build (ds := [.int .i64 1, .int .u16 2]) rfl) ?_
  iterate 2 refine q1 _ ?_
  refine step (v := vs3 (api_Row.mk [] ([([(api_Pair.mk 1 2)] : List api_Pair)] : List (List api_Pair)))) (st_build (ds := [eL (some 2) eapi_Pair [], eL none (eL (some 2) eapi_Pair) ([([(api_Pair.mk 1 2)] : List api_Pair)] : List (List api_Pair))]) rfl) ?_
  refine q1 _ ?_
  refine step (v := vs3 (api_Row.mk [] [])) (st_build (ds := [eL (some 2) eapi_Pair [], eL none (eL (some 2) eapi_Pair) []]) rfl) ?_
  iterate 3 refine q1 _ ?_
  exact nR []
 obtain ⟨r1, hr1, h⟩ := bindE h
 refine NWp.opsJ ⟨tab [(3, .ptr 0 0 0), (4, vi r1.2)], stab [(0, .var [vl2 r1.1.Which, .d (eL none (eL (some 2) eapi_Row) r1.1.Lists)])], 1⟩ ?_ ?_
 ·
  iterate 4 refine q1 _ ?_
  refine stepC (r := .tup [eapi_Table r1.1, .int .i64 r1.2]) (ArgsOk.dt ArgsOk.nil') (c_merge_Of hr1) ?_
  iterate 3 refine q1 _ ?_
  refine step (v := .ptr 0 0 0) (σ' := (upd (stab []) 0 (some (.var [vl2 [], .d (eL none (eL (some 2) eapi_Row) [])])))) (n' := 1) rfl ?_
  refine step (v := V.undef) (σ' := (upd (upd (stab []) 0 (some (.var [vl2 [], .d (eL none (eL (some 2) eapi_Row) [])]))) 0 (some (.var [vl2 r1.1.Which, .d (eL none (eL (some 2) eapi_Row) r1.1.Lists)])))) (n' := 1) rfl ?_
  refine q1 _ ?_
  exact nR [0]
 obtain ⟨r2, hr2, h⟩ := bindE h
 refine NWp.opsJ ⟨tab [(3, .ptr 0 0 0), (4, vi r1.2), (5, .d (eL (some 8) (eA8 (D.int .u16)) r2.1)), (6, vi r2.2)], stab [(0, .var [vl2 r1.1.Which, .d (eL none (eL (some 2) eapi_Row) r1.1.Lists)])], 1⟩ ?_ ?_
 ·
  refine step (v := vs2 r1.1) (st_ldV (ds := [eL none (D.int .i64) r1.1.Which, eL none (eL (some 2) eapi_Row) r1.1.Lists]) rfl rfl (show 2 ≤ 2 by decide) rfl) ?_
  refine step (v := .d (eA8 (D.int .u16) (A8.mk 0 0 0 0 0 0 0 0))) (st_build (ds := [.int .u16 0, .int .u16 0, .int .u16 0, .int .u16 0, .int .u16 0, .int .u16 0, .int .u16 0, .int .u16 0]) rfl) ?_
  refine stepC (r := .tup [eL (some 8) (eA8 (D.int .u16)) r2.1, .int .i64 r2.2]) (ArgsOk.dt (ArgsOk.dt (ArgsOk.dt ArgsOk.nil'))) (c_merge_Lookup hr2) ?_
  iterate 5 refine q1 _ ?_
  exact nR [0]
 obtain ⟨r3, hr3, h⟩ := bindE h
 refine NWp.opsJ ⟨tab [(3, .ptr 0 0 0), (4, vi r1.2), (5, .d (eL (some 8) (eA8 (D.int .u16)) r2.1)), (6, vi r2.2), (8, vi r3.2)], stab [(0, .var [vl2 r1.1.Which, .d (eL none (eL (some 2) eapi_Row) r1.1.Lists)])], 1⟩ ?_ ?_
 ·
  refine step (v := vs2 r1.1) (st_ldV (ds := [eL none (D.int .i64) r1.1.Which, eL none (eL (some 2) eapi_Row) r1.1.Lists]) rfl rfl (show 2 ≤ 2 by decide) rfl) ?_
  refine step (v := .d (eA8 (D.int .u16) (A8.mk 0 0 0 0 0 0 0 0))) (st_build (ds := [.int .u16 0, .int .u16 0, .int .u16 0, .int .u16 0, .int .u16 0, .int .u16 0, .int .u16 0, .int .u16 0]) rfl) ?_
  refine stepC (r := .tup [eL (some 8) (eA8 (D.int .u16)) r3.1, .int .i64 r3.2]) (ArgsOk.dt (ArgsOk.dt (ArgsOk.dt ArgsOk.nil'))) (c_merge_Lookup hr3) ?_
  iterate 5 refine q1 _ ?_
  exact nR [0]
 obtain ⟨y17, hv, h⟩ := bindE h
 refine NWp.opsJ ⟨tab [(0, vb y17)], stab [], 0⟩ ?_ ?_
 ·
  iterate 3 refine q1 _ ?_
  by_cases hg4 : (r1.2 == 0) = true
  ·
   replace hv := iteT hg4 hv
   refine qG _ hg4 ?_
   refine q1 _ ?_
   refine qG _ hg4 ?_
   refine q1 _ ?_
   refine step (v := vb (r2.2 == 0)) (st_pickT (b := (r1.2 == 0)) rfl hg4 rfl) ?_
   refine q1 _ ?_
   by_cases hg5 : (r2.2 == 0) = true
   ·
    replace hv := iteT hg5 hv
    refine qG _ hg5 ?_
    refine q1 _ ?_
    refine qG _ hg5 ?_
    refine q1 _ ?_
    refine step (v := vb (r3.2 == 31)) (st_pickT (b := (r2.2 == 0)) rfl hg5 rfl) ?_
    refine q1 _ ?_
    by_cases hg6 : (r3.2 == 31) = true
    ·
     replace hv := iteT hg6 hv
     refine qG _ hg6 ?_
     refine q1 _ ?_
     refine qG _ hg6 ?_
     refine q1 _ ?_
     refine qG _ hg6 ?_
     refine step (v := vi (r1.1.Lists.length : Int)) (st_len (xs := r1.1.Lists) (e := (eL (some 2) eapi_Row)) rfl) ?_
     refine qG _ hg6 ?_
     refine q1 _ ?_
     refine step (v := vb ((r1.1.Lists.length : Int) == 2)) (st_pickT (b := (r3.2 == 31)) rfl hg6 rfl) ?_
     refine q1 _ ?_
     by_cases hg7 : ((r1.1.Lists.length : Int) == 2) = true
     ·
      replace hv := iteT hg7 hv
      refine qG _ hg7 ?_
      refine q1 _ ?_
      refine qG _ hg7 ?_
      refine q1 _ ?_
      refine qG _ hg7 ?_
      refine step (v := vi (r1.1.Which.length : Int)) (st_len (xs := r1.1.Which) (e := (D.int .i64)) rfl) ?_
      refine qG _ hg7 ?_
      refine q1 _ ?_
      refine step (v := vb ((r1.1.Which.length : Int) == 3)) (st_pickT (b := ((r1.1.Lists.length : Int) == 2)) rfl hg7 rfl) ?_
      refine q1 _ ?_
      by_cases hg8 : ((r1.1.Which.length : Int) == 3) = true
      ·
       replace hv := iteT hg8 hv
       obtain ⟨x9, hx9, hv⟩ := bindE hv
       refine qG _ hg8 ?_
       refine q1 _ ?_
       refine qG _ hg8 ?_
       refine q1 _ ?_
       refine qG _ hg8 ?_
       refine step (v := .d (.cptr none (.int .i64 x9) 0)) (st_iaddr (xs := r1.1.Which) (e := (D.int .i64)) hx9 rfl rfl) ?_
       refine qG _ hg8 ?_
       refine q1 _ ?_
       refine qG _ hg8 ?_
       refine q1 _ ?_
       refine step (v := vb (x9 == 0)) (st_pickT (b := ((r1.1.Which.length : Int) == 3)) rfl hg8 rfl) ?_
       refine q1 _ ?_
       by_cases hg10 : (x9 == 0) = true
       ·
        replace hv := iteT hg10 hv
        refine qG _ hg10 ?_
        refine q1 _ ?_
        refine qG _ hg10 ?_
        refine step (v := vi (r2.1.length : Int)) (st_len (xs := r2.1) (e := (eA8 (D.int .u16))) rfl) ?_
        refine qG _ hg10 ?_
        refine q1 _ ?_
        refine step (v := vb ((r2.1.length : Int) == 1)) (st_pickT (b := (x9 == 0)) rfl hg10 rfl) ?_
        refine q1 _ ?_
        by_cases hg11 : ((r2.1.length : Int) == 1) = true
        ·
         replace hv := iteT hg11 hv
         obtain ⟨x12, hx12, hv⟩ := bindE hv
         refine qG _ hg11 ?_
         refine q1 _ ?_
         refine qG _ hg11 ?_
         refine step (v := .d (.cptr (some 8) (eA8 (D.int .u16) x12) 0)) (st_iaddr (xs := r2.1) (e := (eA8 (D.int .u16))) hx12 rfl rfl) ?_
         refine qG _ hg11 ?_
         refine q1 _ ?_
         refine qG _ hg11 ?_
         refine q1 _ ?_
         refine qG _ hg11 ?_
         refine q1 _ ?_
         refine step (v := vb (x12.a1 == 2)) (st_pickT (b := ((r2.1.length : Int) == 1)) rfl hg11 rfl) ?_
         refine q1 _ ?_
         by_cases hg13 : (x12.a1 == 2) = true
         ·
          replace hv := iteT hg13 hv
          obtain ⟨r14, hr14, hv⟩ := bindE hv
          refine qG _ hg13 ?_
          refine step (v := vs2 r1.1) (st_ldV (ds := [eL none (D.int .i64) r1.1.Which, eL none (eL (some 2) eapi_Row) r1.1.Lists]) rfl rfl (show 2 ≤ 2 by decide) rfl) ?_
          refine qG _ hg13 ?_
          refine stepC (r := .int .i64 r14) (ArgsOk.dt ArgsOk.nil') (c_merge_Rows hr14) ?_
          refine qG _ hg13 ?_
          refine q1 _ ?_
          refine step (v := vb (r14 == 2)) (st_pickT (b := (x12.a1 == 2)) rfl hg13 rfl) ?_
          refine q1 _ ?_
          by_cases hg15 : (r14 == 2) = true
          ·
           replace hv := iteT hg15 hv
           obtain ⟨r16, hr16, hv⟩ := bindE hv
           refine qG _ hg15 ?_
           refine step (v := vs2 r1.1) (st_ldV (ds := [eL none (D.int .i64) r1.1.Which, eL none (eL (some 2) eapi_Row) r1.1.Lists]) rfl rfl (show 2 ≤ 2 by decide) rfl) ?_
           refine qG _ hg15 ?_
           refine stepC (r := .bool r16) (ArgsOk.dt ArgsOk.nil') (c_merge_Right hr16) ?_
           refine step (v := vb r16) (st_pickT (b := (r14 == 2)) rfl hg15 rfl) ?_
           refine q1 _ ?_
           have hh := Option.some.inj hv
           subst hh
           exact nR []
          ·
           replace hv := iteF hg15 hv
           iterate 2 refine qX _ hg15 ?_
           refine step (v := vb false) (st_pickF (b := (r14 == 2)) rfl hg15 rfl) ?_
           refine q1 _ ?_
           have hh := Option.some.inj hv
           subst hh
           exact nR []
         ·
          replace hv := iteF hg13 hv
          iterate 3 refine qX _ hg13 ?_
          refine step (v := vb false) (st_pickF (b := (x12.a1 == 2)) rfl hg13 rfl) ?_
          refine q1 _ ?_
          iterate 2 refine qX false (by decide) ?_
          refine step (v := vb false) (st_pickF (b := false) rfl (by decide) rfl) ?_
          refine q1 _ ?_
          have hh := Option.some.inj hv
          subst hh
          exact nR []
        ·
         replace hv := iteF hg11 hv
         iterate 5 refine qX _ hg11 ?_
         refine step (v := vb false) (st_pickF (b := ((r2.1.length : Int) == 1)) rfl hg11 rfl) ?_
         refine q1 _ ?_
         iterate 3 refine qX false (by decide) ?_
         refine step (v := vb false) (st_pickF (b := false) rfl (by decide) rfl) ?_
         refine q1 _ ?_
         iterate 2 refine qX false (by decide) ?_
         refine step (v := vb false) (st_pickF (b := false) rfl (by decide) rfl) ?_
         refine q1 _ ?_
         have hh := Option.some.inj hv
         subst hh
         exact nR []
       ·
        replace hv := iteF hg10 hv
        iterate 3 refine qX _ hg10 ?_
        refine step (v := vb false) (st_pickF (b := (x9 == 0)) rfl hg10 rfl) ?_
        refine q1 _ ?_
        iterate 5 refine qX false (by decide) ?_
        refine step (v := vb false) (st_pickF (b := false) rfl (by decide) rfl) ?_
        refine q1 _ ?_
        iterate 3 refine qX false (by decide) ?_
        refine step (v := vb false) (st_pickF (b := false) rfl (by decide) rfl) ?_
        refine q1 _ ?_
        iterate 2 refine qX false (by decide) ?_
        refine step (v := vb false) (st_pickF (b := false) rfl (by decide) rfl) ?_
        refine q1 _ ?_
        have hh := Option.some.inj hv
        subst hh
        exact nR []
      ·
       replace hv := iteF hg8 hv
       iterate 5 refine qX _ hg8 ?_
       refine step (v := vb false) (st_pickF (b := ((r1.1.Which.length : Int) == 3)) rfl hg8 rfl) ?_
       refine q1 _ ?_
       iterate 3 refine qX false (by decide) ?_
       refine step (v := vb false) (st_pickF (b := false) rfl (by decide) rfl) ?_
       refine q1 _ ?_
       iterate 5 refine qX false (by decide) ?_
       refine step (v := vb false) (st_pickF (b := false) rfl (by decide) rfl) ?_
       refine q1 _ ?_
       iterate 3 refine qX false (by decide) ?_
       refine step (v := vb false) (st_pickF (b := false) rfl (by decide) rfl) ?_
       refine q1 _ ?_
       iterate 2 refine qX false (by decide) ?_
       refine step (v := vb false) (st_pickF (b := false) rfl (by decide) rfl) ?_
       refine q1 _ ?_
       have hh := Option.some.inj hv
       subst hh
       exact nR []
     ·
      replace hv := iteF hg7 hv
      iterate 4 refine qX _ hg7 ?_
      refine step (v := vb false) (st_pickF (b := ((r1.1.Lists.length : Int) == 2)) rfl hg7 rfl) ?_
      refine q1 _ ?_
      iterate 5 refine qX false (by decide) ?_
      refine step (v := vb false) (st_pickF (b := false) rfl (by decide) rfl) ?_
      refine q1 _ ?_
      iterate 3 refine qX false (by decide) ?_
      refine step (v := vb false) (st_pickF (b := false) rfl (by decide) rfl) ?_
      refine q1 _ ?_
      iterate 5 refine qX false (by decide) ?_
      refine step (v := vb false) (st_pickF (b := false) rfl (by decide) rfl) ?_
      refine q1 _ ?_
      iterate 3 refine qX false (by decide) ?_
      refine step (v := vb false) (st_pickF (b := false) rfl (by decide) rfl) ?_
      refine q1 _ ?_
      iterate 2 refine qX false (by decide) ?_
      refine step (v := vb false) (st_pickF (b := false) rfl (by decide) rfl) ?_
      refine q1 _ ?_
      have hh := Option.some.inj hv
      subst hh
      exact nR []
    ·
     replace hv := iteF hg6 hv
     iterate 4 refine qX _ hg6 ?_
     refine step (v := vb false) (st_pickF (b := (r3.2 == 31)) rfl hg6 rfl) ?_
     refine q1 _ ?_
     iterate 4 refine qX false (by decide) ?_
     refine step (v := vb false) (st_pickF (b := false) rfl (by decide) rfl) ?_
     refine q1 _ ?_
     iterate 5 refine qX false (by decide) ?_
     refine step (v := vb false) (st_pickF (b := false) rfl (by decide) rfl) ?_
     refine q1 _ ?_
     iterate 3 refine qX false (by decide) ?_
     refine step (v := vb false) (st_pickF (b := false) rfl (by decide) rfl) ?_
     refine q1 _ ?_
     iterate 5 refine qX false (by decide) ?_
     refine step (v := vb false) (st_pickF (b := false) rfl (by decide) rfl) ?_
     refine q1 _ ?_
     iterate 3 refine qX false (by decide) ?_
     refine step (v := vb false) (st_pickF (b := false) rfl (by decide) rfl) ?_
     refine q1 _ ?_
     iterate 2 refine qX false (by decide) ?_
     refine step (v := vb false) (st_pickF (b := false) rfl (by decide) rfl) ?_
     refine q1 _ ?_
     have hh := Option.some.inj hv
     subst hh
     exact nR []
   ·
    replace hv := iteF hg5 hv
    iterate 2 refine qX _ hg5 ?_
    refine step (v := vb false) (st_pickF (b := (r2.2 == 0)) rfl hg5 rfl) ?_
    refine q1 _ ?_
    iterate 4 refine qX false (by decide) ?_
    refine step (v := vb false) (st_pickF (b := false) rfl (by decide) rfl) ?_
    refine q1 _ ?_
    iterate 4 refine qX false (by decide) ?_
    refine step (v := vb false) (st_pickF (b := false) rfl (by decide) rfl) ?_
    refine q1 _ ?_
    iterate 5 refine qX false (by decide) ?_
    refine step (v := vb false) (st_pickF (b := false) rfl (by decide) rfl) ?_
    refine q1 _ ?_
    iterate 3 refine qX false (by decide) ?_
    refine step (v := vb false) (st_pickF (b := false) rfl (by decide) rfl) ?_
    refine q1 _ ?_
    iterate 5 refine qX false (by decide) ?_
    refine step (v := vb false) (st_pickF (b := false) rfl (by decide) rfl) ?_
    refine q1 _ ?_
    iterate 3 refine qX false (by decide) ?_
    refine step (v := vb false) (st_pickF (b := false) rfl (by decide) rfl) ?_
    refine q1 _ ?_
    iterate 2 refine qX false (by decide) ?_
    refine step (v := vb false) (st_pickF (b := false) rfl (by decide) rfl) ?_
    refine q1 _ ?_
    have hh := Option.some.inj hv
    subst hh
    exact nR []
  ·
   replace hv := iteF hg4 hv
   iterate 2 refine qX _ hg4 ?_
   refine step (v := vb false) (st_pickF (b := (r1.2 == 0)) rfl hg4 rfl) ?_
   refine q1 _ ?_
   iterate 2 refine qX false (by decide) ?_
   refine step (v := vb false) (st_pickF (b := false) rfl (by decide) rfl) ?_
   refine q1 _ ?_
   iterate 4 refine qX false (by decide) ?_
   refine step (v := vb false) (st_pickF (b := false) rfl (by decide) rfl) ?_
   refine q1 _ ?_
   iterate 4 refine qX false (by decide) ?_
   refine step (v := vb false) (st_pickF (b := false) rfl (by decide) rfl) ?_
   refine q1 _ ?_
   iterate 5 refine qX false (by decide) ?_
   refine step (v := vb false) (st_pickF (b := false) rfl (by decide) rfl) ?_
   refine q1 _ ?_
   iterate 3 refine qX false (by decide) ?_
   refine step (v := vb false) (st_pickF (b := false) rfl (by decide) rfl) ?_
   refine q1 _ ?_
   iterate 5 refine qX false (by decide) ?_
   refine step (v := vb false) (st_pickF (b := false) rfl (by decide) rfl) ?_
   refine q1 _ ?_
   iterate 3 refine qX false (by decide) ?_
   refine step (v := vb false) (st_pickF (b := false) rfl (by decide) rfl) ?_
   refine q1 _ ?_
   iterate 2 refine qX false (by decide) ?_
   refine step (v := vb false) (st_pickF (b := false) rfl (by decide) rfl) ?_
   refine q1 _ ?_
   have hh := Option.some.inj hv
   subst hh
   exact nR []
 have hh := Option.some.inj h
 subst hh
 refine NWp.ret ?_
 show FQ _ _ _ _
 exact FQ.mk1 (.inr rfl) (res_t (v := vb y17) rfl rfl) (RV.d trivial)

theorem c_law10_MergeFull {a0 : Int} {a1 : Int} {r : Bool} (h : law10_MergeFull a0 a1 = some r) : PCall Try.prog 10 [.int .u8 a0, .int .u8 a1] (.bool r) := by
 refine PCall.introN ok10 (show 2 ≤ 87 by decide) ?_
 refine NWp.norm (s0 := ⟨tab [(0, v8 a0), (1, v8 a1)], stab [], 0⟩) (nr []) ?_
 refine NWp.opsJ ⟨tab [(0, v8 a0), (1, v8 a1)], stab [], 0⟩ ?_ ?_
 ·
  refine q1 _ ?_
  exact nR []
 refine NWp.seq ?_
 obtain ⟨r1, hr1, h⟩ := bindE h
 refine NWp.opsJ ⟨tab [(0, v8 a0), (1, v8 a1), (11, vb (!r1))], stab [], 0⟩ ?_ ?_
 ·
  refine stepC (r := .bool r1) ArgsOk.nil' (c_law10_awake hr1) ?_
  refine q1 _ ?_
  exact nR []
 by_cases hc2 : (!r1) = true
 ·
  replace h := iteT hc2 h
  refine NWp.condT (t := (!r1)) rfl hc2 ?_
  refine NWp.opsJ ⟨tab [(4, vb false)], stab [], 0⟩ ?_ ?_
  ·
   refine q1 _ ?_
   exact nR []
  have hh := Option.some.inj h
  subst hh
  refine NWp.ret ?_
  show FQ _ _ _ _
  exact FQ.mk1 (.inr rfl) (res_t (v := vb false) rfl rfl) (RV.d trivial)
 ·
  replace h := iteF hc2 h
  refine NWp.condF (t := (!r1)) rfl hc2 ?_
  refine NWp.skip ?_
  refine NWp.seq ?_
  refine NWp.opsJ ⟨tab [(0, v8 a0), (1, v8 a1), (21, vb ((decide (a0 > 15)) || ((decide (a1 < 1)) || (decide (a1 > 3)))))], stab [], 0⟩ ?_ ?_
  ·
   iterate 3 refine q1 _ ?_
   by_cases hg3 : decide (a0 > 15) = true
   ·
    iterate 2 refine qX (decide (a0 > 15)) (by rw [hg3]; decide) ?_
    refine step (v := vb true) (st_pickT (b := decide (a0 > 15)) rfl hg3 rfl) ?_
    refine q1 _ ?_
    iterate 2 refine qX true (by decide) ?_
    refine step (v := vb true) (st_pickT (b := true) rfl rfl rfl) ?_
    exact RunOps.nil' (nm [] ⟨.d _, .d _, .eq (by first | (simp [hg3]; done) | (simp_all; done) | grind), trivial⟩ trivial)
   ·
    refine qG (decide (a0 > 15)) (Bool.eq_false_iff.2 hg3) ?_
    refine q1 _ ?_
    refine qG (decide (a0 > 15)) (Bool.eq_false_iff.2 hg3) ?_
    refine q1 _ ?_
    refine step (v := vb (decide (a1 < 1))) (st_pickF (b := decide (a0 > 15)) rfl hg3 rfl) ?_
    refine q1 _ ?_
    by_cases hg4 : decide (a1 < 1) = true
    ·
     iterate 2 refine qX (decide (a1 < 1)) (by rw [hg4]; decide) ?_
     refine step (v := vb true) (st_pickT (b := decide (a1 < 1)) rfl hg4 rfl) ?_
     exact RunOps.nil' (nm [] ⟨.d _, .d _, .eq (by first | (simp [hg3, hg4]; done) | (simp_all; done) | grind), trivial⟩ trivial)
    ·
     refine qG (decide (a1 < 1)) (Bool.eq_false_iff.2 hg4) ?_
     refine q1 _ ?_
     refine qG (decide (a1 < 1)) (Bool.eq_false_iff.2 hg4) ?_
     refine q1 _ ?_
     refine step (v := vb (decide (a1 > 3))) (st_pickF (b := decide (a1 < 1)) rfl hg4 rfl) ?_
     exact RunOps.nil' (nm [] ⟨.d _, .d _, .eq (by first | (simp [hg3, hg4]; done) | (simp_all; done) | grind), trivial⟩ trivial)
  by_cases hc5 : ((decide (a0 > 15)) || ((decide (a1 < 1)) || (decide (a1 > 3)))) = true
  ·
   replace h := iteT hc5 h
   refine NWp.condT (t := ((decide (a0 > 15)) || ((decide (a1 < 1)) || (decide (a1 > 3))))) rfl hc5 ?_
   refine NWp.opsJ ⟨tab [(4, vb true)], stab [], 0⟩ ?_ ?_
   ·
    refine q1 _ ?_
    exact nR []
   have hh := Option.some.inj h
   subst hh
   refine NWp.ret ?_
   show FQ _ _ _ _
   exact FQ.mk1 (.inr rfl) (res_t (v := vb true) rfl rfl) (RV.d trivial)
  ·
   replace h := iteF hc5 h
   refine NWp.condF (t := ((decide (a0 > 15)) || ((decide (a1 < 1)) || (decide (a1 > 3))))) rfl hc5 ?_
   refine NWp.skip ?_
   refine NWp.opsJ ⟨tab [(0, v8 a0), (1, v8 a1), (5, .d (.nils))], stab [], 0⟩ ?_ ?_
   ·
    refine q1 _ ?_
    exact nR []
   refine NWp.seq ?_
   refine NWp.opsJ ⟨tab [(0, v8 a0), (1, v8 a1), (5, .d (.nils)), (22, v8 a0), (23, v8 0)], stab [], 0⟩ ?_ ?_
   ·
    iterate 2 refine q1 _ ?_
    exact nR []
   obtain ⟨q34, hl, h⟩ := bindE h
   obtain ⟨z23, z24⟩ := q34
   refine NWp.norm (s0 := ⟨tab [(0, v8 a0), (1, v8 a1), (5, .loc 0 0 (([] : List (List api_Row)).length)), (22, v8 a0), (23, v8 0)], stab [(0, .lst false none (List.map (eL (some 2) eapi_Row) ([] : List (List api_Row))))], 1⟩) (Norm.trans (s2 := ⟨tab [(0, v8 a0), (1, v8 a1), (5, .loc 0 0 (([] : List (List api_Row)).length)), (22, v8 a0), (23, v8 0)], stab [(0, .lst false none (List.map (eL (some 2) eapi_Row) ([] : List (List api_Row))))], 1⟩) (Norm.nil1 5 false none rfl) (nr [0])) ?_
   refine NWp.block ?_
   refine loop_whK (fun (qq : ((List (List api_Row)) × Int)) => ⟨tab [(0, v8 a0), (1, v8 a1), (5, .loc 0 0 qq.1.length), (22, v8 a0), (23, v8 qq.2)], stab [(0, .lst false none (List.map (eL (some 2) eapi_Row) qq.1))], 1⟩) 0 (fun (qq : ((List (List api_Row)) × Int)) => ⟨tab [(0, v8 a0), (1, v8 a1), (5, .loc 0 0 qq.1.length)], stab [(0, .lst false none (List.map (eL (some 2) eapi_Row) qq.1))], 1⟩) hl ?_ ?_
   ·
    rintro ⟨l6, i7⟩ xr8 h
    show NWp _ _ _ _ _ ⟨tab [(0, v8 a0), (1, v8 a1), (5, .loc 0 0 l6.length), (22, v8 a0), (23, v8 i7)], stab [(0, .lst false none (List.map (eL (some 2) eapi_Row) l6))], 1⟩
    refine NWp.opsJ ⟨tab [(0, v8 a0), (1, v8 a1), (5, .loc 0 0 l6.length), (22, v8 a0), (23, v8 i7), (24, vb (decide (i7 < a0)))], stab [(0, .lst false none (List.map (eL (some 2) eapi_Row) l6))], 1⟩ ?_ ?_
    ·
     refine q1 _ ?_
     exact nR [0]
    refine NWp.seq ?_
    by_cases hc9 : decide (i7 < a0) = true
    ·
     replace h := iteT hc9 h
     refine NWp.condT (t := decide (i7 < a0)) rfl hc9 ?_
     refine NWp.skip ?_
     refine NWp.seq ?_
     refine NWp.block ?_
     refine NWp.opsJ ⟨tab [(0, v8 a0), (1, v8 a1), (5, .loc 0 0 l6.length), (6, v8 i7), (22, v8 a0), (23, v8 i7)], stab [(0, .lst false none (List.map (eL (some 2) eapi_Row) l6))], 1⟩ ?_ ?_
     ·
      iterate 2 refine q1 _ ?_
      exact nR [0]
     obtain ⟨l10, hl10, h⟩ := bindE h
     refine NWp.opsJ ⟨tab [(0, v8 a0), (1, v8 a1), (5, .loc 0 0 l6.length), (6, v8 i7), (7, .loc 1 0 l10.length), (22, v8 a0), (23, v8 i7)], stab [(0, .lst false none (List.map (eL (some 2) eapi_Row) l6)), (1, .lst true (some 2) (List.map eapi_Row l10))], 2⟩ ?_ ?_
     ·
      refine step (v := .loc 1 0 l10.length) (σ' := (upd (stab [(0, .lst false none (List.map (eL (some 2) eapi_Row) l6))]) 1 (some (.lst true (some 2) (List.map eapi_Row l10))))) (n' := 2) (st_mk (e := eapi_Row) (z := (api_Row.mk [] [])) hl10 rfl rfl (gmk_le hl10)) ?_
      refine q1 _ ?_
      exact nR [0, 1]
     obtain ⟨x11, hx11, h⟩ := bindE h
     obtain ⟨l12, hl12, h⟩ := bindE h
     refine NWp.opsJ ⟨tab [(0, v8 a0), (1, v8 a1), (5, .loc 0 0 l6.length), (7, .loc 1 0 l12.length), (22, v8 a0), (23, v8 i7)], stab [(0, .lst false none (List.map (eL (some 2) eapi_Row) l6)), (1, .lst true (some 2) (List.map eapi_Row l12))], 2⟩ ?_ ?_
     ·
      iterate 3 refine q1 _ ?_
      refine step (v := .d (eapi_Pair (api_Pair.mk 2 (IntKind.u16.wrap i7)))) (st_build (ds := [.int .i64 2, .int .u16 (IntKind.u16.wrap i7)]) rfl) ?_
      refine q1 _ ?_
      refine step (v := .ptr 1 (0 : Int).toNat 0) (st_iaddrL (xs := l10) (e := eapi_Row) hx11 rfl rfl rfl rfl) ?_
      refine q1 _ ?_
      refine step (v := V.undef) (σ' := (upd (stab [(0, .lst false none (List.map (eL (some 2) eapi_Row) l6)), (1, .lst true (some 2) (List.map eapi_Row l10))]) 1 (some (.lst true (some 2) (List.map eapi_Row l12))))) (n' := 2) (st_storeL (e := eapi_Row) hx11 hl12 rfl rfl rfl rfl) ?_
      exact RunOps.nil' (nm [0, 1] ⟨.d _, .d _, .lc 0, .le (id := 1) (gput_len hl12).symm (show 1 < 2 by decide), .d _, .d _, trivial⟩ ⟨⟨show 0 < 2 by decide, _, rfl, .lst _ _ _⟩, ⟨show 1 < 2 by decide, _, rfl, .lst _ _ _⟩, trivial⟩)
     refine NWp.opsJ ⟨tab [(0, v8 a0), (1, v8 a1), (5, .loc 0 0 l6.length), (7, .loc 1 0 l12.length), (22, v8 a0), (23, v8 i7), (34, v8 a1), (35, v8 0)], stab [(0, .lst false none (List.map (eL (some 2) eapi_Row) l6)), (1, .lst true (some 2) (List.map eapi_Row l12))], 2⟩ ?_ ?_
     ·
      iterate 2 refine q1 _ ?_
      exact nR [0, 1]
     obtain ⟨q22, hl, h⟩ := bindE h
     obtain ⟨z19, z20, z21⟩ := q22
     refine NWp.norm (s0 := ⟨tab [(0, v8 a0), (1, v8 a1), (5, .loc 0 0 l6.length), (7, vl1 l12), (22, v8 a0), (23, v8 i7), (34, v8 a1), (35, v8 0)], stab [(0, .lst false none (List.map (eL (some 2) eapi_Row) l6))], 1⟩) (Norm.trans (s2 := ⟨tab [(0, v8 a0), (1, v8 a1), (5, .loc 0 0 l6.length), (7, vl1 l12), (22, v8 a0), (23, v8 i7), (34, v8 a1), (35, v8 0)], stab [(0, .lst false none (List.map (eL (some 2) eapi_Row) l6))], 1⟩) (Norm.imm1 [7] (id := 1) (m := true) (k := (some 2)) (xs := l12) (e := eapi_Row) rfl (fun t ht => by cases ht with | head => exact ⟨_, rfl, rfl⟩ | tail _ h => cases h)) (nr [0])) ?_
     refine NWp.block ?_
     refine loop_whK (fun (qq : ((List (List api_Row)) × (List api_Row) × Int)) => ⟨tab [(0, v8 a0), (1, v8 a1), (5, .loc 0 0 qq.1.length), (7, vl1 qq.2.1), (22, v8 a0), (23, v8 i7), (34, v8 a1), (35, v8 qq.2.2)], stab [(0, .lst false none (List.map (eL (some 2) eapi_Row) qq.1))], 1⟩) 2 (fun (qq : ((List (List api_Row)) × (List api_Row) × Int)) => ⟨tab [(0, v8 a0), (1, v8 a1), (5, .loc 0 0 qq.1.length), (22, v8 a0), (23, v8 i7)], stab [(0, .lst false none (List.map (eL (some 2) eapi_Row) qq.1))], 1⟩) hl ?_ ?_
     ·
      rintro ⟨l13, y14, i15⟩ xr16 h
      show NWp _ _ _ _ _ ⟨tab [(0, v8 a0), (1, v8 a1), (5, .loc 0 0 l13.length), (7, vl1 y14), (22, v8 a0), (23, v8 i7), (34, v8 a1), (35, v8 i15)], stab [(0, .lst false none (List.map (eL (some 2) eapi_Row) l13))], 1⟩
      refine NWp.opsJ ⟨tab [(0, v8 a0), (1, v8 a1), (5, .loc 0 0 l13.length), (7, vl1 y14), (22, v8 a0), (23, v8 i7), (34, v8 a1), (35, v8 i15), (36, vb (decide (i15 < a1)))], stab [(0, .lst false none (List.map (eL (some 2) eapi_Row) l13))], 1⟩ ?_ ?_
      ·
       refine q1 _ ?_
       exact nR [0]
      refine NWp.seq ?_
      by_cases hc17 : decide (i15 < a1) = true
      ·
       replace h := iteT hc17 h
       refine NWp.condT (t := decide (i15 < a1)) rfl hc17 ?_
       refine NWp.skip ?_
       refine NWp.seq ?_
       refine NWp.block ?_
       obtain ⟨l18, hl18, h⟩ := bindE h
       refine NWp.opsE ⟨tab [(0, v8 a0), (1, v8 a1), (5, .loc 0 0 l18.length), (7, vl1 y14), (22, v8 a0), (23, v8 i7), (34, v8 a1), (35, v8 i15)], stab [(0, .lst false none (List.map (eL (some 2) eapi_Row) l18))], 1⟩ ?_ ?_
       ·
        iterate 3 refine q1 _ ?_
        refine step (v := .loc 1 0 l18.length) (σ' := (upd (upd (stab [(0, .lst false none (List.map (eL (some 2) eapi_Row) l13))]) 0 none) 1 (some (.lst false none (List.map (eL (some 2) eapi_Row) l18))))) (n' := 2) (st_app (xs := l13) (ys := ([y14] : List (List api_Row))) (e := (eL (some 2) eapi_Row)) hl18 rfl rfl rfl (src_v (xs := ([y14] : List (List api_Row))) (e := (eL (some 2) eapi_Row)) rfl)) ?_
        refine q1 _ ?_
        exact nR [1]
       have hh := Option.some.inj h
       subst hh
       refine NWp.opsE ⟨tab [(0, v8 a0), (1, v8 a1), (5, .loc 0 0 l18.length), (7, vl1 y14), (22, v8 a0), (23, v8 i7), (34, v8 a1), (35, v8 (IntKind.u8.wrap (i15 + 1)))], stab [(0, .lst false none (List.map (eL (some 2) eapi_Row) l18))], 1⟩ ?_ ?_
       ·
        iterate 2 refine q1 _ ?_
        exact nR [0]
       exact And.intro rfl rfl
      ·
       replace h := iteF hc17 h
       refine NWp.condF (t := decide (i15 < a1)) rfl hc17 ?_
       have hh := Option.some.inj h
       subst hh
       refine NWp.norm (s0 := ⟨tab [(0, v8 a0), (1, v8 a1), (5, .loc 0 0 l13.length), (22, v8 a0), (23, v8 i7)], stab [(0, .lst false none (List.map (eL (some 2) eapi_Row) l13))], 1⟩) (nr [0]) ?_
       refine NWp.exit ?_
       exact And.intro rfl rfl
     have hh := Option.some.inj h
     subst hh
     refine NWp.opsE ⟨tab [(0, v8 a0), (1, v8 a1), (5, .loc 0 0 z19.length), (22, v8 a0), (23, v8 (IntKind.u8.wrap (i7 + 1)))], stab [(0, .lst false none (List.map (eL (some 2) eapi_Row) z19))], 1⟩ ?_ ?_
     ·
      iterate 2 refine q1 _ ?_
      exact nR [0]
     exact And.intro rfl rfl
    ·
     replace h := iteF hc9 h
     refine NWp.condF (t := decide (i7 < a0)) rfl hc9 ?_
     have hh := Option.some.inj h
     subst hh
     refine NWp.norm (s0 := ⟨tab [(0, v8 a0), (1, v8 a1), (5, .loc 0 0 l6.length)], stab [(0, .lst false none (List.map (eL (some 2) eapi_Row) l6))], 1⟩) (nr [0]) ?_
     refine NWp.exit ?_
     exact And.intro rfl rfl
   obtain ⟨r25, hr25, h⟩ := bindE h
   refine NWp.opsJ ⟨tab [(0, v8 a0), (1, v8 a1), (8, .ptr 0 0 0), (9, vi r25.2)], stab [(0, .var [vl2 r25.1.Which, .d (eL none (eL (some 2) eapi_Row) r25.1.Lists)])], 1⟩ ?_ ?_
   ·
    refine q1 _ ?_
    refine stepC (r := .tup [eapi_Table r25.1, .int .i64 r25.2]) (ArgsOk.lcm (xs := z23) (e := (eL (some 2) eapi_Row)) rfl rfl ArgsOk.nil') (c_merge_Of hr25) ?_
    iterate 3 refine q1 _ ?_
    refine step (v := .ptr 1 0 0) (σ' := (upd (stab [(0, .lst false none (List.map (eL (some 2) eapi_Row) z23))]) 1 (some (.var [vl2 [], .d (eL none (eL (some 2) eapi_Row) [])])))) (n' := 2) rfl ?_
    refine step (v := V.undef) (σ' := (upd (upd (stab [(0, .lst false none (List.map (eL (some 2) eapi_Row) z23))]) 1 (some (.var [vl2 [], .d (eL none (eL (some 2) eapi_Row) [])]))) 1 (some (.var [vl2 r25.1.Which, .d (eL none (eL (some 2) eapi_Row) r25.1.Lists)])))) (n' := 2) rfl ?_
    refine q1 _ ?_
    exact nR [1]
   refine NWp.seq ?_
   refine NWp.opsJ ⟨tab [(0, v8 a0), (1, v8 a1), (8, .ptr 0 0 0), (9, vi r25.2), (49, vb (decide (a0 > 10)))], stab [(0, .var [vl2 r25.1.Which, .d (eL none (eL (some 2) eapi_Row) r25.1.Lists)])], 1⟩ ?_ ?_
   ·
    iterate 2 refine q1 _ ?_
    exact nR [0]
   by_cases hc26 : decide (a0 > 10) = true
   ·
    replace h := iteT hc26 h
    refine NWp.condT (t := decide (a0 > 10)) rfl hc26 ?_
    refine NWp.opsJ ⟨tab [(4, vb ((r25.2 == 24) && ((r25.1.Lists.length : Int) == 0)))], stab [], 0⟩ ?_ ?_
    ·
     iterate 3 refine q1 _ ?_
     by_cases hg27 : (r25.2 == 24) = true
     ·
      refine qG _ hg27 ?_
      refine q1 _ ?_
      refine qG _ hg27 ?_
      refine q1 _ ?_
      refine qG _ hg27 ?_
      refine step (v := vi (r25.1.Lists.length : Int)) (st_len (xs := r25.1.Lists) (e := (eL (some 2) eapi_Row)) rfl) ?_
      refine qG _ hg27 ?_
      refine q1 _ ?_
      refine step (v := vb ((r25.1.Lists.length : Int) == 0)) (st_pickT (b := (r25.2 == 24)) rfl hg27 rfl) ?_
      refine q1 _ ?_
      exact RunOps.nil' (nm [] ⟨.eq (by first | (simp [hg27]; done) | (simp_all; done) | grind), trivial⟩ trivial)
     ·
      iterate 4 refine qX _ hg27 ?_
      refine step (v := vb false) (st_pickF (b := (r25.2 == 24)) rfl hg27 rfl) ?_
      refine q1 _ ?_
      exact RunOps.nil' (nm [] ⟨.eq (by first | (simp [hg27]; done) | (simp_all; done) | grind), trivial⟩ trivial)
    have hh := Option.some.inj h
    subst hh
    refine NWp.ret ?_
    show FQ _ _ _ _
    exact FQ.mk1 (.inr rfl) (res_t (v := vb ((r25.2 == 24) && ((r25.1.Lists.length : Int) == 0))) rfl rfl) (RV.d trivial)
   ·
    replace h := iteF hc26 h
    refine NWp.condF (t := decide (a0 > 10)) rfl hc26 ?_
    refine NWp.skip ?_
    obtain ⟨y32, hv, h⟩ := bindE h
    refine NWp.opsJ ⟨tab [(4, vb y32)], stab [], 0⟩ ?_ ?_
    ·
     iterate 3 refine q1 _ ?_
     by_cases hg28 : (r25.2 == 0) = true
     ·
      replace hv := iteT hg28 hv
      obtain ⟨r29, hr29, hv⟩ := bindE hv
      refine qG _ hg28 ?_
      refine step (v := vs2 r25.1) (st_ldV (ds := [eL none (D.int .i64) r25.1.Which, eL none (eL (some 2) eapi_Row) r25.1.Lists]) rfl rfl (show 2 ≤ 2 by decide) rfl) ?_
      refine qG _ hg28 ?_
      refine stepC (r := .int .i64 r29) (ArgsOk.dt ArgsOk.nil') (c_merge_Rows hr29) ?_
      refine qG _ hg28 ?_
      refine q1 _ ?_
      refine qG _ hg28 ?_
      refine q1 _ ?_
      refine qG _ hg28 ?_
      refine q1 _ ?_
      refine qG _ hg28 ?_
      refine q1 _ ?_
      refine step (v := vb (r29 == (IntKind.i64.wrap (100 * (IntKind.i64.wrap a0))))) (st_pickT (b := (r25.2 == 0)) rfl hg28 rfl) ?_
      refine q1 _ ?_
      by_cases hg30 : (r29 == (IntKind.i64.wrap (100 * (IntKind.i64.wrap a0)))) = true
      ·
       replace hv := iteT hg30 hv
       refine qG _ hg30 ?_
       refine q1 _ ?_
       refine qG _ hg30 ?_
       refine q1 _ ?_
       refine qG _ hg30 ?_
       refine step (v := vi (r25.1.Which.length : Int)) (st_len (xs := r25.1.Which) (e := (D.int .i64)) rfl) ?_
       refine qG _ hg30 ?_
       refine q1 _ ?_
       refine qG _ hg30 ?_
       refine q1 _ ?_
       refine qG _ hg30 ?_
       refine q1 _ ?_
       refine qG _ hg30 ?_
       refine q1 _ ?_
       refine qG _ hg30 ?_
       refine q1 _ ?_
       refine qG _ hg30 ?_
       refine q1 _ ?_
       refine step (v := vb ((r25.1.Which.length : Int) == (IntKind.i64.wrap ((IntKind.i64.wrap a0) * (IntKind.i64.wrap a1))))) (st_pickT (b := (r29 == (IntKind.i64.wrap (100 * (IntKind.i64.wrap a0))))) rfl hg30 rfl) ?_
       refine q1 _ ?_
       by_cases hg31 : ((r25.1.Which.length : Int) == (IntKind.i64.wrap ((IntKind.i64.wrap a0) * (IntKind.i64.wrap a1)))) = true
       ·
        replace hv := iteT hg31 hv
        refine qG _ hg31 ?_
        refine q1 _ ?_
        refine qG _ hg31 ?_
        refine q1 _ ?_
        refine qG _ hg31 ?_
        refine step (v := vi (r25.1.Lists.length : Int)) (st_len (xs := r25.1.Lists) (e := (eL (some 2) eapi_Row)) rfl) ?_
        refine qG _ hg31 ?_
        refine q1 _ ?_
        refine qG _ hg31 ?_
        refine q1 _ ?_
        refine qG _ hg31 ?_
        refine q1 _ ?_
        refine step (v := vb ((r25.1.Lists.length : Int) == (IntKind.i64.wrap a0))) (st_pickT (b := ((r25.1.Which.length : Int) == (IntKind.i64.wrap ((IntKind.i64.wrap a0) * (IntKind.i64.wrap a1))))) rfl hg31 rfl) ?_
        refine q1 _ ?_
        have hh := Option.some.inj hv
        subst hh
        exact nR []
       ·
        replace hv := iteF hg31 hv
        iterate 6 refine qX _ hg31 ?_
        refine step (v := vb false) (st_pickF (b := ((r25.1.Which.length : Int) == (IntKind.i64.wrap ((IntKind.i64.wrap a0) * (IntKind.i64.wrap a1))))) rfl hg31 rfl) ?_
        refine q1 _ ?_
        have hh := Option.some.inj hv
        subst hh
        exact nR []
      ·
       replace hv := iteF hg30 hv
       iterate 9 refine qX _ hg30 ?_
       refine step (v := vb false) (st_pickF (b := (r29 == (IntKind.i64.wrap (100 * (IntKind.i64.wrap a0))))) rfl hg30 rfl) ?_
       refine q1 _ ?_
       iterate 6 refine qX false (by decide) ?_
       refine step (v := vb false) (st_pickF (b := false) rfl (by decide) rfl) ?_
       refine q1 _ ?_
       have hh := Option.some.inj hv
       subst hh
       exact nR []
     ·
      replace hv := iteF hg28 hv
      iterate 6 refine qX _ hg28 ?_
      refine step (v := vb false) (st_pickF (b := (r25.2 == 0)) rfl hg28 rfl) ?_
      refine q1 _ ?_
      iterate 9 refine qX false (by decide) ?_
      refine step (v := vb false) (st_pickF (b := false) rfl (by decide) rfl) ?_
      refine q1 _ ?_
      iterate 6 refine qX false (by decide) ?_
      refine step (v := vb false) (st_pickF (b := false) rfl (by decide) rfl) ?_
      refine q1 _ ?_
      have hh := Option.some.inj hv
      subst hh
      exact nR []
    have hh := Option.some.inj h
    subst hh
    refine NWp.ret ?_
    show FQ _ _ _ _
    exact FQ.mk1 (.inr rfl) (res_t (v := vb y32) rfl rfl) (RV.d trivial)


end Go.AM
