import Derived.Test.YtkgegocfjalcbaaSpE
/-  What they are in the program: walks. -/
set_option linter.unusedVariables false
set_option linter.unusedSimpArgs false
namespace Go.AM
open Go Go.RowKit Go.Proofs

attribute [local irreducible] RunOps RunOpsL

theorem c_law11_rule {a0 : (List api_Pair)} {a1 : (List api_Pair)} {r : api_Rule} (h : law11_rule a0 a1 = some r) : PCall Try.prog 64 [eL (some 2) eapi_Pair a0, eL (some 2) eapi_Pair a1] (eapi_Rule r) := by
 refine PCall.introN ok64 (show 2 ≤ 11 by decide) ?_
 refine NWp.norm (s0 := ⟨tab [(0, vl2 a0), (1, vl2 a1)], stab [], 0⟩) (nr []) ?_
 refine NWp.opsJ ⟨tab [(0, vl2 a0), (1, vl2 a1), (4, .ptr 0 0 0)], stab [(0, .var [vl2 [], vl2 [], vl2 []])], 1⟩ ?_ ?_
 ·
  refine step (v := .ptr 0 0 0) (σ' := (upd (stab []) 0 (some (.var [vl2 [], vl2 [], vl2 []])))) (n' := 1) rfl ?_
  exact nR [0]
 refine NWp.opsJ ⟨tab [(4, .ptr 0 0 0)], stab [(0, .var [vl2 ([(api_Pair.mk 0 1), (api_Pair.mk 1 1)] : List api_Pair), vl2 a0, vl2 a1])], 1⟩ ?_ ?_
 ·
  refine step (v := vs5 (api_Pair.mk 0 1)) (st_build (ds := [.int .i64 0, .int .u16 1]) rfl) ?_
  refine step (v := vs5 (api_Pair.mk 1 1)) (st_build (ds := [.int .i64 1, .int .u16 1]) rfl) ?_
  iterate 3 refine q1 _ ?_
  refine step (v := vs4 (api_Rule.mk ([(api_Pair.mk 0 1), (api_Pair.mk 1 1)] : List api_Pair) a0 a1)) (st_build (ds := [eL (some 2) eapi_Pair ([(api_Pair.mk 0 1), (api_Pair.mk 1 1)] : List api_Pair), eL (some 2) eapi_Pair a0, eL (some 2) eapi_Pair a1]) rfl) ?_
  refine step (v := V.undef) (σ' := (upd (stab [(0, .var [vl2 [], vl2 [], vl2 []])]) 0 (some (.var [vl2 ([(api_Pair.mk 0 1), (api_Pair.mk 1 1)] : List api_Pair), vl2 a0, vl2 a1])))) (n' := 1) rfl ?_
  exact nR [0]
 have hh := Option.some.inj h
 subst hh
 refine NWp.ret ?_
 show FQ _ _ _ _
 exact FQ.mk1 (.inr rfl) (res_cell (ds := [eL (some 2) eapi_Pair ([(api_Pair.mk 0 1), (api_Pair.mk 1 1)] : List api_Pair), eL (some 2) eapi_Pair a0, eL (some 2) eapi_Pair a1]) rfl rfl (show 3 ≤ 3 by decide) rfl rfl) (RV.d trivial)

theorem c_syntax_Size_s {self : api_Pol → Option Int} (hself : ∀ (a0 : api_Pol) (r : Int), self a0 = some r → PCall Try.prog 83 [uapi_Pol a0] (.int .i64 r)) {a0 : api_Pol} {r : Int} (h : syntax_Size_s self a0 = some r) : PCall Try.prog 83 [uapi_Pol a0] (.int .i64 r) := by
 refine PCall.introN ok83 (show 1 ≤ 19 by decide) ?_
 refine NWp.norm (s0 := ⟨tab [(0, vs2 a0)], stab [], 0⟩) (nr []) ?_
 refine NWp.opsJ ⟨tab [(1, vp1 a0)], stab [], 0⟩ ?_ ?_
 ·
  iterate 2 refine q1 _ ?_
  exact nR []
 refine NWp.opsJ ⟨tab [(1, vp1 a0), (3, vi 1)], stab [], 0⟩ ?_ ?_
 ·
  refine q1 _ ?_
  exact nR []
 refine NWp.seq ?_
 refine NWp.opsJ ⟨tab [(3, vi 1), (7, vl3 a0.Kids), (8, vi (a0.Kids.length : Int)), (9, vi 0)], stab [], 0⟩ ?_ ?_
 ·
  iterate 2 refine q1 _ ?_
  refine step (v := vi (a0.Kids.length : Int)) (st_len (xs := a0.Kids) (e := eapi_Pol) rfl) ?_
  refine q1 _ ?_
  exact nR []
 obtain ⟨z10, hl, h⟩ := bindE h
 refine NWp.block ?_
 refine loop_forO (cntU (a0.Kids.length : Int)) (fun (i2 : Int) (qq : Int) => ⟨tab [(3, vi qq), (7, vl3 a0.Kids), (8, vi (a0.Kids.length : Int)), (9, vi i2)], stab [], 0⟩) 0 (fun (qq : Int) => ⟨tab [(3, vi qq)], stab [], 0⟩) Low low_step hl (by unfold Low; omega) ?_ ?_ ?_
 ·
  rintro i2 i1 xr7 hinv5 hgo4 h
  show NWp _ _ _ _ _ ⟨tab [(3, vi i1), (7, vl3 a0.Kids), (8, vi (a0.Kids.length : Int)), (9, vi i2)], stab [], 0⟩
  have hc6 : decide (i2 < (a0.Kids.length : Int)) = true := decide_eq_true hgo4
  refine NWp.opsJ ⟨tab [(3, vi i1), (7, vl3 a0.Kids), (8, vi (a0.Kids.length : Int)), (9, vi i2), (10, vb (decide (i2 < (a0.Kids.length : Int))))], stab [], 0⟩ ?_ ?_
  ·
   refine q1 _ ?_
   exact nR []
  refine NWp.rng 8 rfl fun hB3 => ?_
  refine NWp.seq ?_
  refine NWp.condT (t := decide (i2 < (a0.Kids.length : Int))) rfl hc6 ?_
  refine NWp.skip ?_
  refine NWp.seq ?_
  refine NWp.block ?_
  obtain ⟨x8, hx8, h⟩ := bindE h
  refine NWp.opsJ ⟨tab [(3, vi i1), (5, .ptr 0 0 0), (7, vl3 a0.Kids), (8, vi (a0.Kids.length : Int)), (9, vi i2)], stab [(0, .var [vi x8.Op, vi x8.F, vh x8.N, vl3 x8.Kids])], 1⟩ ?_ ?_
  ·
   refine step (v := vp1 x8) (st_iaddrU (xs := a0.Kids) (e := eapi_Pol) hx8 rfl rfl (eu_api_Pol _)) ?_
   refine q1 _ ?_
   refine step (v := .ptr 0 0 0) (σ' := (upd (stab []) 0 (some (.var [vi 0, vi 0, vh 0, vl3 []])))) (n' := 1) rfl ?_
   refine step (v := V.undef) (σ' := (upd (upd (stab []) 0 (some (.var [vi 0, vi 0, vh 0, vl3 []]))) 0 (some (.var [vi x8.Op, vi x8.F, vh x8.N, vl3 x8.Kids])))) (n' := 1) rfl ?_
   exact nR [0]
  obtain ⟨r9, hr9, h⟩ := bindE h
  refine NWp.opsE ⟨tab [(3, vi (IntKind.i64.wrap (i1 + r9))), (7, vl3 a0.Kids), (8, vi (a0.Kids.length : Int)), (9, vi i2)], stab [], 0⟩ ?_ ?_
  ·
   refine q1 _ ?_
   refine step (v := vs2 x8) (st_ldV (ds := [.int .i64 x8.Op, .int .i64 x8.F, .int .u16 x8.N, eL (some 4) eapi_Pol x8.Kids]) rfl rfl (show 4 ≤ 4 by decide) rfl) ?_
   refine stepC (r := .int .i64 r9) (ArgsOk.dt ArgsOk.nil') (hself _ _ hr9) ?_
   iterate 2 refine q1 _ ?_
   exact nR []
  have hh := Option.some.inj h
  subst hh
  refine NWp.opsE ⟨tab [(3, vi (IntKind.i64.wrap (i1 + r9))), (7, vl3 a0.Kids), (8, vi (a0.Kids.length : Int)), (9, vi (i2 + 1))], stab [], 0⟩ ?_ ?_
  ·
   refine step (v := vi (i2 + 1)) (st_inc (inc_ok hinv5 hgo4 hB3) rfl rfl) ?_
   refine q1 _ ?_
   exact nR []
  exact And.intro rfl rfl
 ·
  rintro i2 i1 hinv5 hgo4
  show NWp _ _ _ _ _ ⟨tab [(3, vi i1), (7, vl3 a0.Kids), (8, vi (a0.Kids.length : Int)), (9, vi i2)], stab [], 0⟩
  have hc6 : ¬ (decide (i2 < (a0.Kids.length : Int)) = true) := fun hq => hgo4 (of_decide_eq_true hq)
  refine NWp.opsJ ⟨tab [(3, vi i1), (7, vl3 a0.Kids), (8, vi (a0.Kids.length : Int)), (9, vi i2), (10, vb (decide (i2 < (a0.Kids.length : Int))))], stab [], 0⟩ ?_ ?_
  ·
   refine q1 _ ?_
   exact nR []
  refine NWp.seq ?_
  refine NWp.condF (t := decide (i2 < (a0.Kids.length : Int))) rfl hc6 ?_
  refine NWp.norm (s0 := ⟨tab [(3, vi i1)], stab [], 0⟩) (nr []) ?_
  refine NWp.exit ?_
  exact And.intro rfl rfl
 refine NWp.opsJ ⟨tab [(2, vi z10)], stab [], 0⟩ ?_ ?_
 ·
  iterate 2 refine q1 _ ?_
  exact nR []
 have hh := Option.some.inj h
 subst hh
 refine NWp.ret ?_
 show FQ _ _ _ _
 exact FQ.mk1 (.inr rfl) (res_t (v := vi z10) rfl rfl) (RV.d trivial)

theorem c_syntax_Size_f : ∀ (k : Nat) (a0 : api_Pol) (r : Int), syntax_Size_f k a0 = some r → PCall Try.prog 83 [uapi_Pol a0] (.int .i64 r)
 | 0, _, _, h => by cases h
 | k + 1, _, _, h => c_syntax_Size_s (c_syntax_Size_f k) h

theorem c_syntax_Size {a0 : api_Pol} {r : Int} (h : syntax_Size a0 = some r) : PCall Try.prog 83 [uapi_Pol a0] (.int .i64 r) := c_syntax_Size_f FUEL _ _ h

theorem c_syntax_Depth_s {self : api_Pol → Option Int} (hself : ∀ (a0 : api_Pol) (r : Int), self a0 = some r → PCall Try.prog 84 [uapi_Pol a0] (.int .i64 r)) {a0 : api_Pol} {r : Int} (h : syntax_Depth_s self a0 = some r) : PCall Try.prog 84 [uapi_Pol a0] (.int .i64 r) := by
 refine PCall.introN ok84 (show 1 ≤ 20 by decide) ?_
 refine NWp.norm (s0 := ⟨tab [(0, vs2 a0)], stab [], 0⟩) (nr []) ?_
 refine NWp.opsJ ⟨tab [(1, vp1 a0)], stab [], 0⟩ ?_ ?_
 ·
  iterate 2 refine q1 _ ?_
  exact nR []
 refine NWp.opsJ ⟨tab [(1, vp1 a0), (3, vi 0)], stab [], 0⟩ ?_ ?_
 ·
  refine q1 _ ?_
  exact nR []
 refine NWp.seq ?_
 refine NWp.opsJ ⟨tab [(3, vi 0), (7, vl3 a0.Kids), (8, vi (a0.Kids.length : Int)), (9, vi 0)], stab [], 0⟩ ?_ ?_
 ·
  iterate 2 refine q1 _ ?_
  refine step (v := vi (a0.Kids.length : Int)) (st_len (xs := a0.Kids) (e := eapi_Pol) rfl) ?_
  refine q1 _ ?_
  exact nR []
 obtain ⟨z10, hl, h⟩ := bindE h
 refine NWp.block ?_
 refine loop_forO (cntU (a0.Kids.length : Int)) (fun (i2 : Int) (qq : Int) => ⟨tab [(3, vi qq), (7, vl3 a0.Kids), (8, vi (a0.Kids.length : Int)), (9, vi i2)], stab [], 0⟩) 0 (fun (qq : Int) => ⟨tab [(3, vi qq)], stab [], 0⟩) Low low_step hl (by unfold Low; omega) ?_ ?_ ?_
 ·
  rintro i2 i1 xr7 hinv5 hgo4 h
  show NWp _ _ _ _ _ ⟨tab [(3, vi i1), (7, vl3 a0.Kids), (8, vi (a0.Kids.length : Int)), (9, vi i2)], stab [], 0⟩
  have hc6 : decide (i2 < (a0.Kids.length : Int)) = true := decide_eq_true hgo4
  refine NWp.opsJ ⟨tab [(3, vi i1), (7, vl3 a0.Kids), (8, vi (a0.Kids.length : Int)), (9, vi i2), (10, vb (decide (i2 < (a0.Kids.length : Int))))], stab [], 0⟩ ?_ ?_
  ·
   refine q1 _ ?_
   exact nR []
  refine NWp.rng 8 rfl fun hB3 => ?_
  refine NWp.seq ?_
  refine NWp.condT (t := decide (i2 < (a0.Kids.length : Int))) rfl hc6 ?_
  refine NWp.skip ?_
  refine NWp.seq ?_
  refine NWp.block ?_
  obtain ⟨x8, hx8, h⟩ := bindE h
  refine NWp.opsJ ⟨tab [(3, vi i1), (5, .ptr 0 0 0), (7, vl3 a0.Kids), (8, vi (a0.Kids.length : Int)), (9, vi i2)], stab [(0, .var [vi x8.Op, vi x8.F, vh x8.N, vl3 x8.Kids])], 1⟩ ?_ ?_
  ·
   refine step (v := vp1 x8) (st_iaddrU (xs := a0.Kids) (e := eapi_Pol) hx8 rfl rfl (eu_api_Pol _)) ?_
   refine q1 _ ?_
   refine step (v := .ptr 0 0 0) (σ' := (upd (stab []) 0 (some (.var [vi 0, vi 0, vh 0, vl3 []])))) (n' := 1) rfl ?_
   refine step (v := V.undef) (σ' := (upd (upd (stab []) 0 (some (.var [vi 0, vi 0, vh 0, vl3 []]))) 0 (some (.var [vi x8.Op, vi x8.F, vh x8.N, vl3 x8.Kids])))) (n' := 1) rfl ?_
   exact nR [0]
  obtain ⟨r9, hr9, h⟩ := bindE h
  refine NWp.opsE ⟨tab [(3, vi (imax i1 r9)), (7, vl3 a0.Kids), (8, vi (a0.Kids.length : Int)), (9, vi i2)], stab [], 0⟩ ?_ ?_
  ·
   refine q1 _ ?_
   refine step (v := vs2 x8) (st_ldV (ds := [.int .i64 x8.Op, .int .i64 x8.F, .int .u16 x8.N, eL (some 4) eapi_Pol x8.Kids]) rfl rfl (show 4 ≤ 4 by decide) rfl) ?_
   refine stepC (r := .int .i64 r9) (ArgsOk.dt ArgsOk.nil') (hself _ _ hr9) ?_
   iterate 2 refine q1 _ ?_
   exact nR []
  have hh := Option.some.inj h
  subst hh
  refine NWp.opsE ⟨tab [(3, vi (imax i1 r9)), (7, vl3 a0.Kids), (8, vi (a0.Kids.length : Int)), (9, vi (i2 + 1))], stab [], 0⟩ ?_ ?_
  ·
   refine step (v := vi (i2 + 1)) (st_inc (inc_ok hinv5 hgo4 hB3) rfl rfl) ?_
   refine q1 _ ?_
   exact nR []
  exact And.intro rfl rfl
 ·
  rintro i2 i1 hinv5 hgo4
  show NWp _ _ _ _ _ ⟨tab [(3, vi i1), (7, vl3 a0.Kids), (8, vi (a0.Kids.length : Int)), (9, vi i2)], stab [], 0⟩
  have hc6 : ¬ (decide (i2 < (a0.Kids.length : Int)) = true) := fun hq => hgo4 (of_decide_eq_true hq)
  refine NWp.opsJ ⟨tab [(3, vi i1), (7, vl3 a0.Kids), (8, vi (a0.Kids.length : Int)), (9, vi i2), (10, vb (decide (i2 < (a0.Kids.length : Int))))], stab [], 0⟩ ?_ ?_
  ·
   refine q1 _ ?_
   exact nR []
  refine NWp.seq ?_
  refine NWp.condF (t := decide (i2 < (a0.Kids.length : Int))) rfl hc6 ?_
  refine NWp.norm (s0 := ⟨tab [(3, vi i1)], stab [], 0⟩) (nr []) ?_
  refine NWp.exit ?_
  exact And.intro rfl rfl
 refine NWp.opsJ ⟨tab [(2, vi (IntKind.i64.wrap (z10 + 1)))], stab [], 0⟩ ?_ ?_
 ·
  iterate 3 refine q1 _ ?_
  exact nR []
 have hh := Option.some.inj h
 subst hh
 refine NWp.ret ?_
 show FQ _ _ _ _
 exact FQ.mk1 (.inr rfl) (res_t (v := vi (IntKind.i64.wrap (z10 + 1))) rfl rfl) (RV.d trivial)

theorem c_syntax_Depth_f : ∀ (k : Nat) (a0 : api_Pol) (r : Int), syntax_Depth_f k a0 = some r → PCall Try.prog 84 [uapi_Pol a0] (.int .i64 r)
 | 0, _, _, h => by cases h
 | k + 1, _, _, h => c_syntax_Depth_s (c_syntax_Depth_f k) h

theorem c_syntax_Depth {a0 : api_Pol} {r : Int} (h : syntax_Depth a0 = some r) : PCall Try.prog 84 [uapi_Pol a0] (.int .i64 r) := c_syntax_Depth_f FUEL _ _ h

theorem c_slices_IndexFunc_api_Pol {a0 : (List api_Pol)} {a1 : api_Pol → Option Bool} {g_a1 : D} (hf_a1 : Fn1 Try.prog g_a1 uapi_Pol D.bool a1) {r : Int} (h : slices_IndexFunc_api_Pol a0 a1 = some r) : PCall Try.prog 113 [eL (some 4) eapi_Pol a0, g_a1] (.int .i64 r) := by
 obtain ⟨fn_a1, cap_a1, rfl, hc_a1⟩ := hf_a1
 refine PCall.introN ok113 (show 2 ≤ 19 by decide) ?_
 refine NWp.norm (s0 := ⟨tab [(0, vl3 a0), (1, .d (.func fn_a1 cap_a1))], stab [], 0⟩) (nr []) ?_
 refine NWp.opsJ ⟨tab [(0, vl3 a0), (1, .d (.func fn_a1 cap_a1))], stab [], 0⟩ ?_ ?_
 ·
  refine q1 _ ?_
  exact nR []
 refine NWp.seq ?_
 refine NWp.opsJ ⟨tab [(0, vl3 a0), (1, .d (.func fn_a1 cap_a1)), (7, vi (a0.length : Int)), (8, vi 0)], stab [], 0⟩ ?_ ?_
 ·
  refine q1 _ ?_
  refine step (v := vi (a0.length : Int)) (st_len (xs := a0) (e := eapi_Pol) rfl) ?_
  refine q1 _ ?_
  exact nR []
 obtain ⟨q10, hl, h⟩ := bindE h
 refine NWp.block ?_
 refine loop_forR (cntU (a0.length : Int)) (fun (i1 : Int) (qq : Unit) => ⟨tab [(0, vl3 a0), (1, .d (.func fn_a1 cap_a1)), (7, vi (a0.length : Int)), (8, vi i1)], stab [], 0⟩) 0 (fun (qq : Unit) => ⟨tab [], stab [], 0⟩) Low low_step (r := r) hl (by unfold Low; omega) ?_ ?_ ?_ ?_
 ·
  rintro i1 ⟨⟩ xr6 hinv4 hgo3 h
  show NWp _ _ _ _ _ ⟨tab [(0, vl3 a0), (1, .d (.func fn_a1 cap_a1)), (7, vi (a0.length : Int)), (8, vi i1)], stab [], 0⟩
  have hc5 : decide (i1 < (a0.length : Int)) = true := decide_eq_true hgo3
  refine NWp.opsJ ⟨tab [(0, vl3 a0), (1, .d (.func fn_a1 cap_a1)), (7, vi (a0.length : Int)), (8, vi i1), (9, vb (decide (i1 < (a0.length : Int))))], stab [], 0⟩ ?_ ?_
  ·
   refine q1 _ ?_
   exact nR []
  refine NWp.rng 7 rfl fun hB2 => ?_
  refine NWp.seq ?_
  refine NWp.condT (t := decide (i1 < (a0.length : Int))) rfl hc5 ?_
  refine NWp.skip ?_
  refine NWp.seq ?_
  refine NWp.block ?_
  refine NWp.opsJ ⟨tab [(0, vl3 a0), (1, .d (.func fn_a1 cap_a1)), (5, vi i1), (7, vi (a0.length : Int)), (8, vi i1)], stab [], 0⟩ ?_ ?_
  ·
   iterate 2 refine q1 _ ?_
   exact nR []
  obtain ⟨x7, hx7, h⟩ := bindE h
  obtain ⟨x8, hx8, h⟩ := bindE h
  refine NWp.opsJ ⟨tab [(0, vl3 a0), (1, .d (.func fn_a1 cap_a1)), (5, vi i1), (7, vi (a0.length : Int)), (8, vi i1), (16, vb x8)], stab [], 0⟩ ?_ ?_
  ·
   iterate 3 refine q1 _ ?_
   refine step (v := vp1 x7) (st_iaddrU (xs := a0) (e := eapi_Pol) hx7 rfl rfl (eu_api_Pol _)) ?_
   refine q1 _ ?_
   refine stepV' (r := .bool x8) rfl (ArgsOk.dt ArgsOk.nil') (hc_a1 _ _ hx8) ?_
   exact nR []
  by_cases hc9 : x8 = true
  ·
   replace h := iteT hc9 h
   refine NWp.condT (t := x8) rfl hc9 ?_
   refine NWp.opsJ ⟨tab [(4, vi i1)], stab [], 0⟩ ?_ ?_
   ·
    iterate 2 refine q1 _ ?_
    exact nR []
   obtain ⟨r10, kr10, hr⟩ := mapE (o := some i1) (g := Br.ret) h
   subst hr
   have h := kr10
   have hh := Option.some.inj h
   subst hh
   refine NWp.ret ?_
   refine And.intro (fun hn => nomatch hn) ?_
   intro hq
   have hq := hq.symm
   subst hq
   show FQ _ _ _ _
   exact FQ.mk1 (.inr rfl) (res_t (v := vi i1) rfl rfl) (RV.d trivial)
  ·
   replace h := iteF hc9 h
   refine NWp.condF (t := x8) rfl hc9 ?_
   refine NWp.skip ?_
   have hh := Option.some.inj h
   subst hh
   refine NWp.opsE ⟨tab [(0, vl3 a0), (1, .d (.func fn_a1 cap_a1)), (7, vi (a0.length : Int)), (8, vi (i1 + 1))], stab [], 0⟩ ?_ ?_
   ·
    refine step (v := vi (i1 + 1)) (st_inc (inc_ok hinv4 hgo3 hB2) rfl rfl) ?_
    refine q1 _ ?_
    exact nR []
   exact And.intro rfl rfl
 ·
  rintro i1 ⟨⟩ hinv4 hgo3
  show NWp _ _ _ _ _ ⟨tab [(0, vl3 a0), (1, .d (.func fn_a1 cap_a1)), (7, vi (a0.length : Int)), (8, vi i1)], stab [], 0⟩
  have hc5 : ¬ (decide (i1 < (a0.length : Int)) = true) := fun hq => hgo3 (of_decide_eq_true hq)
  refine NWp.opsJ ⟨tab [(0, vl3 a0), (1, .d (.func fn_a1 cap_a1)), (7, vi (a0.length : Int)), (8, vi i1), (9, vb (decide (i1 < (a0.length : Int))))], stab [], 0⟩ ?_ ?_
  ·
   refine q1 _ ?_
   exact nR []
  refine NWp.seq ?_
  refine NWp.condF (t := decide (i1 < (a0.length : Int))) rfl hc5 ?_
  refine NWp.norm (s0 := ⟨tab [], stab [], 0⟩) (nr []) ?_
  refine NWp.exit ?_
  exact And.intro rfl rfl
 ·
  intro r' hq
  subst hq
  exact Option.some.inj h
 rintro ⟨⟩ rfl
 refine NWp.opsJ ⟨tab [(4, vi (-1))], stab [], 0⟩ ?_ ?_
 ·
  refine q1 _ ?_
  exact nR []
 have hh := Option.some.inj h
 subst hh
 refine NWp.ret ?_
 show FQ _ _ _ _
 exact FQ.mk1 (.inr rfl) (res_t (v := vi (-1)) rfl rfl) (RV.d trivial)

theorem c_slices_ContainsFunc_api_Pol {a0 : (List api_Pol)} {a1 : api_Pol → Option Bool} {g_a1 : D} (hf_a1 : Fn1 Try.prog g_a1 uapi_Pol D.bool a1) {r : Bool} (h : slices_ContainsFunc_api_Pol a0 a1 = some r) : PCall Try.prog 98 [eL (some 4) eapi_Pol a0, g_a1] (.bool r) := by
 obtain ⟨fn_a1, cap_a1, rfl, hc_a1⟩ := hf_a1
 refine PCall.introN ok98 (show 2 ≤ 9 by decide) ?_
 refine NWp.norm (s0 := ⟨tab [(0, vl3 a0), (1, .d (.func fn_a1 cap_a1))], stab [], 0⟩) (nr []) ?_
 refine NWp.opsJ ⟨tab [(0, vl3 a0), (1, .d (.func fn_a1 cap_a1))], stab [], 0⟩ ?_ ?_
 ·
  refine q1 _ ?_
  exact nR []
 obtain ⟨r1, hr1, h⟩ := bindE h
 refine NWp.opsJ ⟨tab [(4, vb (decide (r1 ≥ 0)))], stab [], 0⟩ ?_ ?_
 ·
  iterate 2 refine q1 _ ?_
  refine stepC (r := .int .i64 r1) (ArgsOk.dt (ArgsOk.dt ArgsOk.nil')) (c_slices_IndexFunc_api_Pol ⟨_, _, rfl, hc_a1⟩ hr1) ?_
  iterate 2 refine q1 _ ?_
  exact nR []
 have hh := Option.some.inj h
 subst hh
 refine NWp.ret ?_
 show FQ _ _ _ _
 exact FQ.mk1 (.inr rfl) (res_t (v := vb (decide (r1 ≥ 0))) rfl rfl) (RV.d trivial)

theorem c_syntax_Predicate_1 {self : api_Pol → Option Bool} (hself : ∀ (b0 : api_Pol) (r : Bool), self b0 = some r → PCall Try.prog 97 [uapi_Pol b0] (.bool r)) {a0 : api_Pol} {r : Bool} (h : syntax_Predicate_1 self a0 = some r) : PCall Try.prog 112 [uapi_Pol a0] (.bool r) := by
 refine PCall.introN ok112 (show 1 ≤ 6 by decide) ?_
 refine NWp.norm (s0 := ⟨tab [(0, vs2 a0)], stab [], 0⟩) (nr []) ?_
 refine NWp.opsJ ⟨tab [(1, vp1 a0)], stab [], 0⟩ ?_ ?_
 ·
  iterate 2 refine q1 _ ?_
  exact nR []
 obtain ⟨r1, hr1, h⟩ := bindE h
 refine NWp.opsJ ⟨tab [(2, vb (!r1))], stab [], 0⟩ ?_ ?_
 ·
  refine q1 _ ?_
  refine stepC (r := .bool r1) (ArgsOk.dt ArgsOk.nil') (hself _ _ hr1) ?_
  iterate 2 refine q1 _ ?_
  exact nR []
 have hh := Option.some.inj h
 subst hh
 refine NWp.ret ?_
 show FQ _ _ _ _
 exact FQ.mk1 (.inr rfl) (res_t (v := vb (!r1)) rfl rfl) (RV.d trivial)

theorem c_syntax_Predicate_s {self : api_Pol → Option Bool} (hself : ∀ (a0 : api_Pol) (r : Bool), self a0 = some r → PCall Try.prog 97 [uapi_Pol a0] (.bool r)) {a0 : api_Pol} {r : Bool} (h : syntax_Predicate_s self a0 = some r) : PCall Try.prog 97 [uapi_Pol a0] (.bool r) := by
 refine PCall.introN ok97 (show 1 ≤ 18 by decide) ?_
 refine NWp.norm (s0 := ⟨tab [(0, vs2 a0)], stab [], 0⟩) (nr []) ?_
 refine NWp.opsJ ⟨tab [(1, vp1 a0)], stab [], 0⟩ ?_ ?_
 ·
  iterate 2 refine q1 _ ?_
  exact nR []
 refine NWp.seq ?_
 refine NWp.opsJ ⟨tab [(1, vp1 a0), (4, vi a0.Op)], stab [], 0⟩ ?_ ?_
 ·
  iterate 2 refine q1 _ ?_
  exact nR []
 refine NWp.block ?_
 obtain ⟨y5, hv, h⟩ := bindE h
 refine NWp.seqN ⟨tab [(1, vp1 a0), (4, vi a0.Op), (5, vb y5)], stab [], 0⟩ ?_ ?_
 ·
  replace h := hv
  refine NWp.opsJ ⟨tab [(1, vp1 a0), (4, vi a0.Op), (5, vb (a0.Op == 0))], stab [], 0⟩ ?_ ?_
  ·
   iterate 2 refine q1 _ ?_
   exact nR []
  by_cases hc1 : (a0.Op == 0) = true
  ·
   replace h := iteT hc1 h
   refine NWp.condT (t := (a0.Op == 0)) rfl hc1 ?_
   have hh := Option.some.inj h
   subst hh
   refine NWp.norm (s0 := ⟨tab [(1, vp1 a0), (4, vi a0.Op), (5, vb (a0.Op == 0))], stab [], 0⟩) (nr []) ?_
   refine NWp.skip ?_
   exact And.intro rfl rfl
  ·
   replace h := iteF hc1 h
   refine NWp.condF (t := (a0.Op == 0)) rfl hc1 ?_
   refine NWp.opsJ ⟨tab [(1, vp1 a0), (4, vi a0.Op), (5, vb (a0.Op == 1))], stab [], 0⟩ ?_ ?_
   ·
    iterate 2 refine q1 _ ?_
    exact nR []
   by_cases hc2 : (a0.Op == 1) = true
   ·
    replace h := iteT hc2 h
    refine NWp.condT (t := (a0.Op == 1)) rfl hc2 ?_
    have hh := Option.some.inj h
    subst hh
    refine NWp.norm (s0 := ⟨tab [(1, vp1 a0), (4, vi a0.Op), (5, vb (a0.Op == 1))], stab [], 0⟩) (nr []) ?_
    refine NWp.skip ?_
    exact And.intro rfl rfl
   ·
    replace h := iteF hc2 h
    refine NWp.condF (t := (a0.Op == 1)) rfl hc2 ?_
    refine NWp.opsJ ⟨tab [(1, vp1 a0), (4, vi a0.Op), (5, vb (a0.Op == 2))], stab [], 0⟩ ?_ ?_
    ·
     iterate 2 refine q1 _ ?_
     exact nR []
    by_cases hc3 : (a0.Op == 2) = true
    ·
     replace h := iteT hc3 h
     refine NWp.condT (t := (a0.Op == 2)) rfl hc3 ?_
     have hh := Option.some.inj h
     subst hh
     refine NWp.norm (s0 := ⟨tab [(1, vp1 a0), (4, vi a0.Op), (5, vb (a0.Op == 2))], stab [], 0⟩) (nr []) ?_
     refine NWp.skip ?_
     exact And.intro rfl rfl
    ·
     replace h := iteF hc3 h
     refine NWp.condF (t := (a0.Op == 2)) rfl hc3 ?_
     refine NWp.opsJ ⟨tab [(1, vp1 a0), (4, vi a0.Op), (5, vb (a0.Op == 3))], stab [], 0⟩ ?_ ?_
     ·
      iterate 2 refine q1 _ ?_
      exact nR []
     by_cases hc4 : (a0.Op == 3) = true
     ·
      replace h := iteT hc4 h
      refine NWp.condT (t := (a0.Op == 3)) rfl hc4 ?_
      have hh := Option.some.inj h
      subst hh
      refine NWp.norm (s0 := ⟨tab [(1, vp1 a0), (4, vi a0.Op), (5, vb (a0.Op == 3))], stab [], 0⟩) (nr []) ?_
      refine NWp.skip ?_
      exact And.intro rfl rfl
     ·
      replace h := iteF hc4 h
      refine NWp.condF (t := (a0.Op == 3)) rfl hc4 ?_
      have hh := Option.some.inj h
      subst hh
      refine NWp.opsE ⟨tab [(1, vp1 a0), (4, vi a0.Op), (5, vb (a0.Op == 4))], stab [], 0⟩ ?_ ?_
      ·
       iterate 2 refine q1 _ ?_
       exact nR []
      exact And.intro rfl rfl
 by_cases hc7 : y5 = true
 ·
  replace h := iteT hc7 h
  refine NWp.condT (t := y5) rfl hc7 ?_
  refine NWp.opsJ ⟨tab [(2, vb true)], stab [], 0⟩ ?_ ?_
  ·
   refine q1 _ ?_
   exact nR []
  have hh := Option.some.inj h
  subst hh
  refine NWp.ret ?_
  show FQ _ _ _ _
  exact FQ.mk1 (.inr rfl) (res_t (v := vb true) rfl rfl) (RV.d trivial)
 ·
  replace h := iteF hc7 h
  refine NWp.condF (t := y5) rfl hc7 ?_
  obtain ⟨y9, hv, h⟩ := bindE h
  refine NWp.seqN ⟨tab [(1, vp1 a0), (11, vb y9)], stab [], 0⟩ ?_ ?_
  ·
   replace h := hv
   refine NWp.opsJ ⟨tab [(1, vp1 a0), (4, vi a0.Op), (11, vb (a0.Op == 6))], stab [], 0⟩ ?_ ?_
   ·
    iterate 2 refine q1 _ ?_
    exact nR []
   by_cases hc8 : (a0.Op == 6) = true
   ·
    replace h := iteT hc8 h
    refine NWp.condT (t := (a0.Op == 6)) rfl hc8 ?_
    have hh := Option.some.inj h
    subst hh
    refine NWp.norm (s0 := ⟨tab [(1, vp1 a0), (11, vb (a0.Op == 6))], stab [], 0⟩) (nr []) ?_
    refine NWp.skip ?_
    exact And.intro rfl rfl
   ·
    replace h := iteF hc8 h
    refine NWp.condF (t := (a0.Op == 6)) rfl hc8 ?_
    have hh := Option.some.inj h
    subst hh
    refine NWp.opsE ⟨tab [(1, vp1 a0), (11, vb (a0.Op == 7))], stab [], 0⟩ ?_ ?_
    ·
     iterate 2 refine q1 _ ?_
     exact nR []
    exact And.intro rfl rfl
  by_cases hc11 : y9 = true
  ·
   replace h := iteT hc11 h
   refine NWp.condT (t := y9) rfl hc11 ?_
   obtain ⟨r12, hr12, h⟩ := bindE h
   refine NWp.opsJ ⟨tab [(2, vb (!r12))], stab [], 0⟩ ?_ ?_
   ·
    iterate 2 refine q1 _ ?_
    refine stepC (r := .bool r12) (ArgsOk.dt (ArgsOk.dt ArgsOk.nil')) (c_slices_ContainsFunc_api_Pol ⟨112, [], rfl, fun _ _ h => c_syntax_Predicate_1 hself h⟩ hr12) ?_
    iterate 2 refine q1 _ ?_
    exact nR []
   have hh := Option.some.inj h
   subst hh
   refine NWp.ret ?_
   show FQ _ _ _ _
   exact FQ.mk1 (.inr rfl) (res_t (v := vb (!r12)) rfl rfl) (RV.d trivial)
  ·
   replace h := iteF hc11 h
   refine NWp.condF (t := y9) rfl hc11 ?_
   refine NWp.skip ?_
   refine NWp.opsJ ⟨tab [(2, vb false)], stab [], 0⟩ ?_ ?_
   ·
    refine q1 _ ?_
    exact nR []
   have hh := Option.some.inj h
   subst hh
   refine NWp.ret ?_
   show FQ _ _ _ _
   exact FQ.mk1 (.inr rfl) (res_t (v := vb false) rfl rfl) (RV.d trivial)

theorem c_syntax_Predicate_f : ∀ (k : Nat) (a0 : api_Pol) (r : Bool), syntax_Predicate_f k a0 = some r → PCall Try.prog 97 [uapi_Pol a0] (.bool r)
 | 0, _, _, h => by cases h
 | k + 1, _, _, h => c_syntax_Predicate_s (c_syntax_Predicate_f k) h

theorem c_syntax_Predicate {a0 : api_Pol} {r : Bool} (h : syntax_Predicate a0 = some r) : PCall Try.prog 97 [uapi_Pol a0] (.bool r) := c_syntax_Predicate_f FUEL _ _ h

theorem c_syntax_formed_1 {self : api_Pol → Int → Option Bool} (hself : ∀ (b0 : api_Pol) (b1 : Int) (r : Bool), self b0 b1 = some r → PCall Try.prog 85 [uapi_Pol b0, .int .i64 b1] (.bool r)) {a0 : api_Pol} {a1 : Int} {r : Bool} (h : syntax_formed_1 self a0 a1 = some r) : PCall Try.prog 99 [uapi_Pol a0, .cptr none (.int .i64 a1) 0] (.bool r) := by
 refine PCall.introN ok99 (show 2 ≤ 8 by decide) ?_
 refine NWp.norm (s0 := ⟨tab [(0, vs2 a0), (1, .d (.cptr none (.int .i64 a1) 0))], stab [], 0⟩) (nr []) ?_
 refine NWp.opsJ ⟨tab [(1, .d (.cptr none (.int .i64 a1) 0)), (2, vp1 a0)], stab [], 0⟩ ?_ ?_
 ·
  iterate 2 refine q1 _ ?_
  exact nR []
 obtain ⟨r1, hr1, h⟩ := bindE h
 refine NWp.opsJ ⟨tab [(3, vb (!r1))], stab [], 0⟩ ?_ ?_
 ·
  iterate 2 refine q1 _ ?_
  refine stepC (r := .bool r1) (ArgsOk.dt (ArgsOk.dt ArgsOk.nil')) (hself _ _ _ hr1) ?_
  iterate 2 refine q1 _ ?_
  exact nR []
 have hh := Option.some.inj h
 subst hh
 refine NWp.ret ?_
 show FQ _ _ _ _
 exact FQ.mk1 (.inr rfl) (res_t (v := vb (!r1)) rfl rfl) (RV.d trivial)

theorem c_syntax_formed_s {self : api_Pol → Int → Option Bool} (hself : ∀ (a0 : api_Pol) (a1 : Int) (r : Bool), self a0 a1 = some r → PCall Try.prog 85 [uapi_Pol a0, .int .i64 a1] (.bool r)) {a0 : api_Pol} {a1 : Int} {r : Bool} (h : syntax_formed_s self a0 a1 = some r) : PCall Try.prog 85 [uapi_Pol a0, .int .i64 a1] (.bool r) := by
 refine PCall.introN ok85 (show 2 ≤ 92 by decide) ?_
 refine NWp.norm (s0 := ⟨tab [(0, vs2 a0), (1, vi a1)], stab [], 0⟩) (nr []) ?_
 refine NWp.opsJ ⟨tab [(2, vp1 a0), (3, .d (.cptr none (.int .i64 a1) 0))], stab [], 0⟩ ?_ ?_
 ·
  iterate 3 refine q1 _ ?_
  exact nR []
 refine NWp.opsJ ⟨tab [(2, vp1 a0), (3, .d (.cptr none (.int .i64 a1) 0)), (5, vb ((a0.F == 0) && (a0.N == 0)))], stab [], 0⟩ ?_ ?_
 ·
  iterate 4 refine q1 _ ?_
  by_cases hg1 : (a0.F == 0) = true
  ·
   refine qG _ hg1 ?_
   refine q1 _ ?_
   refine qG _ hg1 ?_
   refine q1 _ ?_
   refine qG _ hg1 ?_
   refine q1 _ ?_
   refine step (v := vb (a0.N == 0)) (st_pickT (b := (a0.F == 0)) rfl hg1 rfl) ?_
   refine q1 _ ?_
   exact RunOps.nil' (nm [] ⟨.d _, .d _, .eq (by first | (simp [hg1]; done) | (simp_all; done) | grind), trivial⟩ trivial)
  ·
   iterate 3 refine qX _ hg1 ?_
   refine step (v := vb false) (st_pickF (b := (a0.F == 0)) rfl hg1 rfl) ?_
   refine q1 _ ?_
   exact RunOps.nil' (nm [] ⟨.d _, .d _, .eq (by first | (simp [hg1]; done) | (simp_all; done) | grind), trivial⟩ trivial)
 refine NWp.opsJ ⟨tab [(2, vp1 a0), (3, .d (.cptr none (.int .i64 a1) 0)), (5, vb ((a0.F == 0) && (a0.N == 0))), (6, vi 0), (7, vi 8)], stab [], 0⟩ ?_ ?_
 ·
  iterate 2 refine q1 _ ?_
  exact nR []
 obtain ⟨q30, hv, h⟩ := bindE h
 refine NWp.seqS (fun (qq : (Int × Int)) => ⟨tab [(2, vp1 a0), (6, vi qq.1), (7, vi qq.2)], stab [], 0⟩) (xv := q30) (r := r) ?_ ?_ ?_
 ·
  replace h := hv
  refine NWp.opsJ ⟨tab [(2, vp1 a0), (3, .d (.cptr none (.int .i64 a1) 0)), (5, vb ((a0.F == 0) && (a0.N == 0))), (6, vi 0), (7, vi 8), (17, vi a0.Op)], stab [], 0⟩ ?_ ?_
  ·
   iterate 2 refine q1 _ ?_
   exact nR []
  refine NWp.block ?_
  obtain ⟨y3, hv, h⟩ := bindE h
  refine NWp.seqN ⟨tab [(2, vp1 a0), (3, .d (.cptr none (.int .i64 a1) 0)), (5, vb ((a0.F == 0) && (a0.N == 0))), (6, vi 0), (7, vi 8), (17, vi a0.Op), (18, vb y3)], stab [], 0⟩ ?_ ?_
  ·
   replace h := hv
   refine NWp.opsJ ⟨tab [(2, vp1 a0), (3, .d (.cptr none (.int .i64 a1) 0)), (5, vb ((a0.F == 0) && (a0.N == 0))), (6, vi 0), (7, vi 8), (17, vi a0.Op), (18, vb (a0.Op == 0))], stab [], 0⟩ ?_ ?_
   ·
    iterate 2 refine q1 _ ?_
    exact nR []
   by_cases hc2 : (a0.Op == 0) = true
   ·
    replace h := iteT hc2 h
    refine NWp.condT (t := (a0.Op == 0)) rfl hc2 ?_
    have hh := Option.some.inj h
    subst hh
    refine NWp.norm (s0 := ⟨tab [(2, vp1 a0), (3, .d (.cptr none (.int .i64 a1) 0)), (5, vb ((a0.F == 0) && (a0.N == 0))), (6, vi 0), (7, vi 8), (17, vi a0.Op), (18, vb (a0.Op == 0))], stab [], 0⟩) (nr []) ?_
    refine NWp.skip ?_
    exact And.intro rfl rfl
   ·
    replace h := iteF hc2 h
    refine NWp.condF (t := (a0.Op == 0)) rfl hc2 ?_
    have hh := Option.some.inj h
    subst hh
    refine NWp.opsE ⟨tab [(2, vp1 a0), (3, .d (.cptr none (.int .i64 a1) 0)), (5, vb ((a0.F == 0) && (a0.N == 0))), (6, vi 0), (7, vi 8), (17, vi a0.Op), (18, vb (a0.Op == 1))], stab [], 0⟩ ?_ ?_
    ·
     iterate 2 refine q1 _ ?_
     exact nR []
    exact And.intro rfl rfl
  by_cases hc5 : y3 = true
  ·
   replace h := iteT hc5 h
   refine NWp.condT (t := y3) rfl hc5 ?_
   refine NWp.opsJ ⟨tab [(4, vb (((a0.Kids.length : Int) == 0) && ((a0.F == 0) && (a0.N == 0))))], stab [], 0⟩ ?_ ?_
   ·
    iterate 2 refine q1 _ ?_
    refine step (v := vi (a0.Kids.length : Int)) (st_len (xs := a0.Kids) (e := eapi_Pol) rfl) ?_
    iterate 2 refine q1 _ ?_
    by_cases hg6 : ((a0.Kids.length : Int) == 0) = true
    ·
     refine qG _ hg6 ?_
     refine q1 _ ?_
     refine step (v := vb ((a0.F == 0) && (a0.N == 0))) (st_pickT (b := ((a0.Kids.length : Int) == 0)) rfl hg6 rfl) ?_
     refine q1 _ ?_
     exact RunOps.nil' (nm [] ⟨.eq (by first | (simp [hg6]; done) | (simp_all; done) | grind), trivial⟩ trivial)
    ·
     refine qX _ hg6 ?_
     refine step (v := vb false) (st_pickF (b := ((a0.Kids.length : Int) == 0)) rfl hg6 rfl) ?_
     refine q1 _ ?_
     exact RunOps.nil' (nm [] ⟨.eq (by first | (simp [hg6]; done) | (simp_all; done) | grind), trivial⟩ trivial)
   obtain ⟨r7, kr7, hr⟩ := mapE (o := some (((a0.Kids.length : Int) == 0) && ((a0.F == 0) && (a0.N == 0)))) (g := Sum.inr) h
   subst hr
   have h := kr7
   have hh := Option.some.inj h
   subst hh
   refine NWp.ret ?_
   refine And.intro (fun hn => nomatch hn) ?_
   intro hq
   have hq := hq.symm
   subst hq
   show FQ _ _ _ _
   exact FQ.mk1 (.inr rfl) (res_t (v := vb (((a0.Kids.length : Int) == 0) && ((a0.F == 0) && (a0.N == 0)))) rfl rfl) (RV.d trivial)
  ·
   replace h := iteF hc5 h
   refine NWp.condF (t := y3) rfl hc5 ?_
   refine NWp.opsJ ⟨tab [(2, vp1 a0), (3, .d (.cptr none (.int .i64 a1) 0)), (5, vb ((a0.F == 0) && (a0.N == 0))), (6, vi 0), (7, vi 8), (17, vi a0.Op), (28, vb (a0.Op == 4))], stab [], 0⟩ ?_ ?_
   ·
    iterate 2 refine q1 _ ?_
    exact nR []
   by_cases hc7 : (a0.Op == 4) = true
   ·
    replace h := iteT hc7 h
    refine NWp.condT (t := (a0.Op == 4)) rfl hc7 ?_
    obtain ⟨y14, hv, h⟩ := bindE h
    refine NWp.opsJ ⟨tab [(4, vb y14)], stab [], 0⟩ ?_ ?_
    ·
     iterate 2 refine q1 _ ?_
     refine step (v := vi (a0.Kids.length : Int)) (st_len (xs := a0.Kids) (e := eapi_Pol) rfl) ?_
     iterate 2 refine q1 _ ?_
     by_cases hg8 : ((a0.Kids.length : Int) == 1) = true
     ·
      replace hv := iteT hg8 hv
      refine qG _ hg8 ?_
      refine q1 _ ?_
      refine step (v := vb ((a0.F == 0) && (a0.N == 0))) (st_pickT (b := ((a0.Kids.length : Int) == 1)) rfl hg8 rfl) ?_
      refine q1 _ ?_
      by_cases hg9 : ((a0.F == 0) && (a0.N == 0)) = true
      ·
       replace hv := iteT hg9 hv
       obtain ⟨x10, hx10, hv⟩ := bindE hv
       obtain ⟨r11, hr11, hv⟩ := bindE hv
       refine qG _ hg9 ?_
       refine q1 _ ?_
       refine qG _ hg9 ?_
       refine q1 _ ?_
       refine qG _ hg9 ?_
       refine step (v := vp1 x10) (st_iaddrU (xs := a0.Kids) (e := eapi_Pol) hx10 rfl rfl (eu_api_Pol _)) ?_
       refine qG _ hg9 ?_
       refine q1 _ ?_
       refine qG _ hg9 ?_
       refine stepC (r := .bool r11) (ArgsOk.dt ArgsOk.nil') (c_syntax_Predicate hr11) ?_
       refine step (v := vb r11) (st_pickT (b := ((a0.F == 0) && (a0.N == 0))) rfl hg9 rfl) ?_
       refine q1 _ ?_
       by_cases hg12 : r11 = true
       ·
        replace hv := iteT hg12 hv
        obtain ⟨r13, hr13, hv⟩ := bindE hv
        refine qG _ hg12 ?_
        refine q1 _ ?_
        refine qG _ hg12 ?_
        refine q1 _ ?_
        refine qG _ hg12 ?_
        refine step (v := vp1 x10) (st_iaddrU (xs := a0.Kids) (e := eapi_Pol) hx10 rfl rfl (eu_api_Pol _)) ?_
        refine qG _ hg12 ?_
        refine q1 _ ?_
        refine qG _ hg12 ?_
        refine q1 _ ?_
        refine qG _ hg12 ?_
        refine stepC (r := .bool r13) (ArgsOk.dt (ArgsOk.dt ArgsOk.nil')) (hself _ _ _ hr13) ?_
        refine step (v := vb r13) (st_pickT (b := r11) rfl hg12 rfl) ?_
        refine q1 _ ?_
        have hh := Option.some.inj hv
        subst hh
        exact nR []
       ·
        replace hv := iteF hg12 hv
        iterate 6 refine qX _ hg12 ?_
        refine step (v := vb false) (st_pickF (b := r11) rfl hg12 rfl) ?_
        refine q1 _ ?_
        have hh := Option.some.inj hv
        subst hh
        exact nR []
      ·
       replace hv := iteF hg9 hv
       iterate 5 refine qX _ hg9 ?_
       refine step (v := vb false) (st_pickF (b := ((a0.F == 0) && (a0.N == 0))) rfl hg9 rfl) ?_
       refine q1 _ ?_
       iterate 6 refine qX false (by decide) ?_
       refine step (v := vb false) (st_pickF (b := false) rfl (by decide) rfl) ?_
       refine q1 _ ?_
       have hh := Option.some.inj hv
       subst hh
       exact nR []
     ·
      replace hv := iteF hg8 hv
      refine qX _ hg8 ?_
      refine step (v := vb false) (st_pickF (b := ((a0.Kids.length : Int) == 1)) rfl hg8 rfl) ?_
      refine q1 _ ?_
      iterate 5 refine qX false (by decide) ?_
      refine step (v := vb false) (st_pickF (b := false) rfl (by decide) rfl) ?_
      refine q1 _ ?_
      iterate 6 refine qX false (by decide) ?_
      refine step (v := vb false) (st_pickF (b := false) rfl (by decide) rfl) ?_
      refine q1 _ ?_
      have hh := Option.some.inj hv
      subst hh
      exact nR []
    obtain ⟨r16, kr16, hr⟩ := mapE (o := some y14) (g := Sum.inr) h
    subst hr
    have h := kr16
    have hh := Option.some.inj h
    subst hh
    refine NWp.ret ?_
    refine And.intro (fun hn => nomatch hn) ?_
    intro hq
    have hq := hq.symm
    subst hq
    show FQ _ _ _ _
    exact FQ.mk1 (.inr rfl) (res_t (v := vb y14) rfl rfl) (RV.d trivial)
   ·
    replace h := iteF hc7 h
    refine NWp.condF (t := (a0.Op == 4)) rfl hc7 ?_
    obtain ⟨y17, hv, h⟩ := bindE h
    refine NWp.seqN ⟨tab [(2, vp1 a0), (3, .d (.cptr none (.int .i64 a1) 0)), (5, vb ((a0.F == 0) && (a0.N == 0))), (6, vi 0), (7, vi 8), (17, vi a0.Op), (52, vb y17)], stab [], 0⟩ ?_ ?_
    ·
     replace h := hv
     refine NWp.opsJ ⟨tab [(2, vp1 a0), (3, .d (.cptr none (.int .i64 a1) 0)), (5, vb ((a0.F == 0) && (a0.N == 0))), (6, vi 0), (7, vi 8), (17, vi a0.Op), (52, vb (a0.Op == 6))], stab [], 0⟩ ?_ ?_
     ·
      iterate 2 refine q1 _ ?_
      exact nR []
     by_cases hc16 : (a0.Op == 6) = true
     ·
      replace h := iteT hc16 h
      refine NWp.condT (t := (a0.Op == 6)) rfl hc16 ?_
      have hh := Option.some.inj h
      subst hh
      refine NWp.norm (s0 := ⟨tab [(2, vp1 a0), (3, .d (.cptr none (.int .i64 a1) 0)), (5, vb ((a0.F == 0) && (a0.N == 0))), (6, vi 0), (7, vi 8), (17, vi a0.Op), (52, vb (a0.Op == 6))], stab [], 0⟩) (nr []) ?_
      refine NWp.skip ?_
      exact And.intro rfl rfl
     ·
      replace h := iteF hc16 h
      refine NWp.condF (t := (a0.Op == 6)) rfl hc16 ?_
      have hh := Option.some.inj h
      subst hh
      refine NWp.opsE ⟨tab [(2, vp1 a0), (3, .d (.cptr none (.int .i64 a1) 0)), (5, vb ((a0.F == 0) && (a0.N == 0))), (6, vi 0), (7, vi 8), (17, vi a0.Op), (52, vb (a0.Op == 7))], stab [], 0⟩ ?_ ?_
      ·
       iterate 2 refine q1 _ ?_
       exact nR []
      exact And.intro rfl rfl
    by_cases hc19 : y17 = true
    ·
     replace h := iteT hc19 h
     refine NWp.condT (t := y17) rfl hc19 ?_
     obtain ⟨y23, hv, h⟩ := bindE h
     refine NWp.opsJ ⟨tab [(4, vb y23)], stab [], 0⟩ ?_ ?_
     ·
      iterate 2 refine q1 _ ?_
      refine step (v := vi (a0.Kids.length : Int)) (st_len (xs := a0.Kids) (e := eapi_Pol) rfl) ?_
      iterate 2 refine q1 _ ?_
      by_cases hg20 : decide ((a0.Kids.length : Int) ≥ 2) = true
      ·
       replace hv := iteT hg20 hv
       refine qG _ hg20 ?_
       refine q1 _ ?_
       refine step (v := vb ((a0.F == 0) && (a0.N == 0))) (st_pickT (b := decide ((a0.Kids.length : Int) ≥ 2)) rfl hg20 rfl) ?_
       refine q1 _ ?_
       by_cases hg21 : ((a0.F == 0) && (a0.N == 0)) = true
       ·
        replace hv := iteT hg21 hv
        obtain ⟨r22, hr22, hv⟩ := bindE hv
        refine qG _ hg21 ?_
        refine q1 _ ?_
        refine qG _ hg21 ?_
        refine q1 _ ?_
        refine qG _ hg21 ?_
        refine q1 _ ?_
        refine qG _ hg21 ?_
        refine stepC (r := .bool r22) (ArgsOk.dt (ArgsOk.dt ArgsOk.nil')) (c_slices_ContainsFunc_api_Pol ⟨99, [.cptr none (.int .i64 a1) 0], rfl, fun _ _ h => c_syntax_formed_1 hself h⟩ hr22) ?_
        refine qG _ hg21 ?_
        refine q1 _ ?_
        refine step (v := vb (!r22)) (st_pickT (b := ((a0.F == 0) && (a0.N == 0))) rfl hg21 rfl) ?_
        refine q1 _ ?_
        have hh := Option.some.inj hv
        subst hh
        exact nR []
       ·
        replace hv := iteF hg21 hv
        iterate 5 refine qX _ hg21 ?_
        refine step (v := vb false) (st_pickF (b := ((a0.F == 0) && (a0.N == 0))) rfl hg21 rfl) ?_
        refine q1 _ ?_
        have hh := Option.some.inj hv
        subst hh
        exact nR []
      ·
       replace hv := iteF hg20 hv
       refine qX _ hg20 ?_
       refine step (v := vb false) (st_pickF (b := decide ((a0.Kids.length : Int) ≥ 2)) rfl hg20 rfl) ?_
       refine q1 _ ?_
       iterate 5 refine qX false (by decide) ?_
       refine step (v := vb false) (st_pickF (b := false) rfl (by decide) rfl) ?_
       refine q1 _ ?_
       have hh := Option.some.inj hv
       subst hh
       exact nR []
     obtain ⟨r25, kr25, hr⟩ := mapE (o := some y23) (g := Sum.inr) h
     subst hr
     have h := kr25
     have hh := Option.some.inj h
     subst hh
     refine NWp.ret ?_
     refine And.intro (fun hn => nomatch hn) ?_
     intro hq
     have hq := hq.symm
     subst hq
     show FQ _ _ _ _
     exact FQ.mk1 (.inr rfl) (res_t (v := vb y23) rfl rfl) (RV.d trivial)
    ·
     replace h := iteF hc19 h
     refine NWp.condF (t := y17) rfl hc19 ?_
     refine NWp.opsJ ⟨tab [(2, vp1 a0), (3, .d (.cptr none (.int .i64 a1) 0)), (6, vi 0), (7, vi 8), (17, vi a0.Op), (69, vb (a0.Op == 2))], stab [], 0⟩ ?_ ?_
     ·
      iterate 2 refine q1 _ ?_
      exact nR []
     by_cases hc25 : (a0.Op == 2) = true
     ·
      replace h := iteT hc25 h
      refine NWp.condT (t := (a0.Op == 2)) rfl hc25 ?_
      have hh := Option.some.inj h
      subst hh
      refine NWp.norm (s0 := ⟨tab [(2, vp1 a0), (6, vi 0), (7, vi 8)], stab [], 0⟩) (nr []) ?_
      refine NWp.skip ?_
      exact And.intro rfl rfl
     ·
      replace h := iteF hc25 h
      refine NWp.condF (t := (a0.Op == 2)) rfl hc25 ?_
      refine NWp.opsJ ⟨tab [(2, vp1 a0), (3, .d (.cptr none (.int .i64 a1) 0)), (6, vi 0), (7, vi 8), (17, vi a0.Op), (71, vb (a0.Op == 5))], stab [], 0⟩ ?_ ?_
      ·
       iterate 2 refine q1 _ ?_
       exact nR []
      by_cases hc26 : (a0.Op == 5) = true
      ·
       replace h := iteT hc26 h
       refine NWp.condT (t := (a0.Op == 5)) rfl hc26 ?_
       have hh := Option.some.inj h
       subst hh
       refine NWp.opsE ⟨tab [(2, vp1 a0), (6, vi 1), (7, vi 8)], stab [], 0⟩ ?_ ?_
       ·
        refine q1 _ ?_
        exact nR []
       exact And.intro rfl rfl
      ·
       replace h := iteF hc26 h
       refine NWp.condF (t := (a0.Op == 5)) rfl hc26 ?_
       refine NWp.opsJ ⟨tab [(2, vp1 a0), (3, .d (.cptr none (.int .i64 a1) 0)), (6, vi 0), (73, vb (a0.Op == 3))], stab [], 0⟩ ?_ ?_
       ·
        iterate 2 refine q1 _ ?_
        exact nR []
       by_cases hc27 : (a0.Op == 3) = true
       ·
        replace h := iteT hc27 h
        refine NWp.condT (t := (a0.Op == 3)) rfl hc27 ?_
        have hh := Option.some.inj h
        subst hh
        refine NWp.opsE ⟨tab [(2, vp1 a0), (6, vi 0), (7, vi a1)], stab [], 0⟩ ?_ ?_
        ·
         iterate 2 refine q1 _ ?_
         exact nR []
        exact And.intro rfl rfl
       ·
        replace h := iteF hc27 h
        refine NWp.condF (t := (a0.Op == 3)) rfl hc27 ?_
        refine NWp.opsJ ⟨tab [(4, vb false)], stab [], 0⟩ ?_ ?_
        ·
         refine q1 _ ?_
         exact nR []
        obtain ⟨r28, kr28, hr⟩ := mapE (o := some false) (g := Sum.inr) h
        subst hr
        have h := kr28
        have hh := Option.some.inj h
        subst hh
        refine NWp.ret ?_
        refine And.intro (fun hn => nomatch hn) ?_
        intro hq
        have hq := hq.symm
        subst hq
        show FQ _ _ _ _
        exact FQ.mk1 (.inr rfl) (res_t (v := vb false) rfl rfl) (RV.d trivial)
 ·
  intro r' hq
  subst hq
  exact Option.some.inj h
 rintro ⟨y28, y29⟩ rfl
 show NWp _ _ _ _ _ ⟨tab [(2, vp1 a0), (6, vi y28), (7, vi y29)], stab [], 0⟩
 refine NWp.opsJ ⟨tab [(4, vb (((a0.Kids.length : Int) == 0) && ((decide (a0.F ≥ y28)) && (decide (a0.F < y29)))))], stab [], 0⟩ ?_ ?_
 ·
  iterate 2 refine q1 _ ?_
  refine step (v := vi (a0.Kids.length : Int)) (st_len (xs := a0.Kids) (e := eapi_Pol) rfl) ?_
  iterate 2 refine q1 _ ?_
  by_cases hg31 : ((a0.Kids.length : Int) == 0) = true
  ·
   refine qG _ hg31 ?_
   refine q1 _ ?_
   refine qG _ hg31 ?_
   refine q1 _ ?_
   refine qG _ hg31 ?_
   refine q1 _ ?_
   refine qG _ hg31 ?_
   refine q1 _ ?_
   refine step (v := vb (decide (a0.F ≥ y28))) (st_pickT (b := ((a0.Kids.length : Int) == 0)) rfl hg31 rfl) ?_
   refine q1 _ ?_
   by_cases hg32 : decide (a0.F ≥ y28) = true
   ·
    refine qG _ hg32 ?_
    refine q1 _ ?_
    refine qG _ hg32 ?_
    refine q1 _ ?_
    refine qG _ hg32 ?_
    refine q1 _ ?_
    refine qG _ hg32 ?_
    refine q1 _ ?_
    refine step (v := vb (decide (a0.F < y29))) (st_pickT (b := decide (a0.F ≥ y28)) rfl hg32 rfl) ?_
    refine q1 _ ?_
    exact RunOps.nil' (nm [] ⟨.eq (by first | (simp [hg31, hg32]; done) | (simp_all; done) | grind), trivial⟩ trivial)
   ·
    iterate 4 refine qX _ hg32 ?_
    refine step (v := vb false) (st_pickF (b := decide (a0.F ≥ y28)) rfl hg32 rfl) ?_
    refine q1 _ ?_
    exact RunOps.nil' (nm [] ⟨.eq (by first | (simp [hg31, hg32]; done) | (simp_all; done) | grind), trivial⟩ trivial)
  ·
   iterate 4 refine qX _ hg31 ?_
   refine step (v := vb false) (st_pickF (b := ((a0.Kids.length : Int) == 0)) rfl hg31 rfl) ?_
   refine q1 _ ?_
   iterate 4 refine qX false (by decide) ?_
   refine step (v := vb false) (st_pickF (b := false) rfl (by decide) rfl) ?_
   refine q1 _ ?_
   exact RunOps.nil' (nm [] ⟨.eq (by first | (simp [hg31]; done) | (simp_all; done) | grind), trivial⟩ trivial)
 have hh := Option.some.inj h
 subst hh
 refine NWp.ret ?_
 show FQ _ _ _ _
 exact FQ.mk1 (.inr rfl) (res_t (v := vb (((a0.Kids.length : Int) == 0) && ((decide (a0.F ≥ y28)) && (decide (a0.F < y29))))) rfl rfl) (RV.d trivial)

theorem c_syntax_formed_f : ∀ (k : Nat) (a0 : api_Pol) (a1 : Int) (r : Bool), syntax_formed_f k a0 a1 = some r → PCall Try.prog 85 [uapi_Pol a0, .int .i64 a1] (.bool r)
 | 0, _, _, _, h => by cases h
 | k + 1, _, _, _, h => c_syntax_formed_s (c_syntax_formed_f k) h

theorem c_syntax_formed {a0 : api_Pol} {a1 : Int} {r : Bool} (h : syntax_formed a0 a1 = some r) : PCall Try.prog 85 [uapi_Pol a0, .int .i64 a1] (.bool r) := c_syntax_formed_f FUEL _ _ _ h

theorem c_syntax_once {a0 : (List api_Pair)} {a1 : Int} {r : Bool} (h : syntax_once a0 a1 = some r) : PCall Try.prog 86 [eL (some 2) eapi_Pair a0, .int .i64 a1] (.bool r) := by
 refine PCall.introN ok86 (show 2 ≤ 39 by decide) ?_
 refine NWp.norm (s0 := ⟨tab [(0, vl2 a0), (1, vi a1)], stab [], 0⟩) (nr []) ?_
 refine NWp.opsJ ⟨tab [(0, vl2 a0), (1, vi a1)], stab [], 0⟩ ?_ ?_
 ·
  refine q1 _ ?_
  exact nR []
 refine NWp.seq ?_
 refine NWp.opsJ ⟨tab [(0, vl2 a0), (1, vi a1), (7, vl2 a0), (8, vi (a0.length : Int)), (9, vi 0)], stab [], 0⟩ ?_ ?_
 ·
  refine q1 _ ?_
  refine step (v := vi (a0.length : Int)) (st_len (xs := a0) (e := eapi_Pair) rfl) ?_
  refine q1 _ ?_
  exact nR []
 obtain ⟨q15, hl, h⟩ := bindE h
 refine NWp.block ?_
 refine loop_forR (cntU (a0.length : Int)) (fun (i1 : Int) (qq : Unit) => ⟨tab [(0, vl2 a0), (1, vi a1), (7, vl2 a0), (8, vi (a0.length : Int)), (9, vi i1)], stab [], 0⟩) 0 (fun (qq : Unit) => ⟨tab [], stab [], 0⟩) Low low_step (r := r) hl (by unfold Low; omega) ?_ ?_ ?_ ?_
 ·
  rintro i1 ⟨⟩ xr6 hinv4 hgo3 h
  show NWp _ _ _ _ _ ⟨tab [(0, vl2 a0), (1, vi a1), (7, vl2 a0), (8, vi (a0.length : Int)), (9, vi i1)], stab [], 0⟩
  have hc5 : decide (i1 < (a0.length : Int)) = true := decide_eq_true hgo3
  refine NWp.opsJ ⟨tab [(0, vl2 a0), (1, vi a1), (7, vl2 a0), (8, vi (a0.length : Int)), (9, vi i1), (10, vb (decide (i1 < (a0.length : Int))))], stab [], 0⟩ ?_ ?_
  ·
   refine q1 _ ?_
   exact nR []
  refine NWp.rng 8 rfl fun hB2 => ?_
  refine NWp.seq ?_
  refine NWp.condT (t := decide (i1 < (a0.length : Int))) rfl hc5 ?_
  refine NWp.skip ?_
  refine NWp.seq ?_
  refine NWp.block ?_
  obtain ⟨x7, hx7, h⟩ := bindE h
  refine NWp.opsJ ⟨tab [(0, vl2 a0), (1, vi a1), (5, vi i1), (6, .ptr 0 0 0), (7, vl2 a0), (8, vi (a0.length : Int)), (9, vi i1)], stab [(0, .var [vi x7.F, vh x7.N])], 1⟩ ?_ ?_
  ·
   refine q1 _ ?_
   refine step (v := vp4 x7) (st_iaddr (xs := a0) (e := eapi_Pair) hx7 rfl rfl) ?_
   refine q1 _ ?_
   refine step (v := .ptr 0 0 0) (σ' := (upd (stab []) 0 (some (.var [vi 0, vh 0])))) (n' := 1) rfl ?_
   refine q1 _ ?_
   refine step (v := V.undef) (σ' := (upd (upd (stab []) 0 (some (.var [vi 0, vh 0]))) 0 (some (.var [vi x7.F, vh x7.N])))) (n' := 1) rfl ?_
   exact nR [0]
  obtain ⟨y12, hv, h⟩ := bindE h
  refine NWp.opsJ ⟨tab [(0, vl2 a0), (1, vi a1), (7, vl2 a0), (8, vi (a0.length : Int)), (9, vi i1), (37, vb y12)], stab [], 0⟩ ?_ ?_
  ·
   iterate 4 refine q1 _ ?_
   by_cases hg8 : decide (x7.F < 0) = true
   ·
    replace hv := iteT hg8 hv
    iterate 4 refine qX (decide (x7.F < 0)) (by rw [hg8]; decide) ?_
    refine step (v := vb true) (st_pickT (b := decide (x7.F < 0)) rfl hg8 rfl) ?_
    refine q1 _ ?_
    iterate 3 refine qX true (by decide) ?_
    refine stepXX rfl ?_
    refine stepXX rfl ?_
    refine stepXX rfl ?_
    refine stepXX rfl ?_
    refine stepXX rfl ?_
    refine stepXX rfl ?_
    refine stepXX rfl ?_
    refine stepXX rfl ?_
    refine stepXX rfl ?_
    refine qX true (by decide) ?_
    refine step (v := vb true) (st_pickT (b := true) rfl rfl rfl) ?_
    have hh := Option.some.inj hv
    subst hh
    exact nR []
   ·
    replace hv := iteF hg8 hv
    refine qG (decide (x7.F < 0)) (Bool.eq_false_iff.2 hg8) ?_
    refine q1 _ ?_
    refine qG (decide (x7.F < 0)) (Bool.eq_false_iff.2 hg8) ?_
    refine q1 _ ?_
    refine qG (decide (x7.F < 0)) (Bool.eq_false_iff.2 hg8) ?_
    refine q1 _ ?_
    refine qG (decide (x7.F < 0)) (Bool.eq_false_iff.2 hg8) ?_
    refine q1 _ ?_
    refine step (v := vb (decide (x7.F ≥ a1))) (st_pickF (b := decide (x7.F < 0)) rfl hg8 rfl) ?_
    refine q1 _ ?_
    by_cases hg9 : decide (x7.F ≥ a1) = true
    ·
     replace hv := iteT hg9 hv
     iterate 3 refine qX (decide (x7.F ≥ a1)) (by rw [hg9]; decide) ?_
     refine stepXX rfl ?_
     refine stepXX rfl ?_
     refine stepXX rfl ?_
     refine stepXX rfl ?_
     refine stepXX rfl ?_
     refine stepXX rfl ?_
     refine stepXX rfl ?_
     refine stepXX rfl ?_
     refine stepXX rfl ?_
     refine qX (decide (x7.F ≥ a1)) (by rw [hg9]; decide) ?_
     refine step (v := vb true) (st_pickT (b := decide (x7.F ≥ a1)) rfl hg9 rfl) ?_
     have hh := Option.some.inj hv
     subst hh
     exact nR []
    ·
     replace hv := iteF hg9 hv
     refine qG (decide (x7.F ≥ a1)) (Bool.eq_false_iff.2 hg9) ?_
     refine q1 _ ?_
     refine qG (decide (x7.F ≥ a1)) (Bool.eq_false_iff.2 hg9) ?_
     refine q1 _ ?_
     refine qG (decide (x7.F ≥ a1)) (Bool.eq_false_iff.2 hg9) ?_
     refine q1 _ ?_
     by_cases hg10 : decide (i1 > 0) = true
     ·
      replace hv := iteT hg10 hv
      obtain ⟨x11, hx11, hv⟩ := bindE hv
      refine qG _ hg10 ?_
      refine q1 _ ?_
      refine qG _ hg10 ?_
      refine q1 _ ?_
      refine qG _ hg10 ?_
      refine q1 _ ?_
      refine qG _ hg10 ?_
      refine step (v := vp4 x11) (st_iaddr (xs := a0) (e := eapi_Pair) hx11 rfl rfl) ?_
      refine qG _ hg10 ?_
      refine q1 _ ?_
      refine qG _ hg10 ?_
      refine q1 _ ?_
      refine qG _ hg10 ?_
      refine q1 _ ?_
      refine qG _ hg10 ?_
      refine q1 _ ?_
      refine qG _ hg10 ?_
      refine q1 _ ?_
      refine qG (decide (x7.F ≥ a1)) (Bool.eq_false_iff.2 hg9) ?_
      refine step (v := vb (decide (x11.F ≥ x7.F))) (st_pickT (b := decide (i1 > 0)) rfl hg10 rfl) ?_
      refine step (v := vb (decide (x11.F ≥ x7.F))) (st_pickF (b := decide (x7.F ≥ a1)) rfl hg9 rfl) ?_
      have hh := Option.some.inj hv
      subst hh
      exact nR []
     ·
      replace hv := iteF hg10 hv
      iterate 9 refine qX _ hg10 ?_
      refine qG (decide (x7.F ≥ a1)) (Bool.eq_false_iff.2 hg9) ?_
      refine step (v := vb false) (st_pickF (b := decide (i1 > 0)) rfl hg10 rfl) ?_
      refine step (v := vb false) (st_pickF (b := decide (x7.F ≥ a1)) rfl hg9 rfl) ?_
      have hh := Option.some.inj hv
      subst hh
      exact nR []
  by_cases hc14 : y12 = true
  ·
   replace h := iteT hc14 h
   refine NWp.condT (t := y12) rfl hc14 ?_
   refine NWp.opsJ ⟨tab [(4, vb false)], stab [], 0⟩ ?_ ?_
   ·
    refine q1 _ ?_
    exact nR []
   obtain ⟨r15, kr15, hr⟩ := mapE (o := some false) (g := Br.ret) h
   subst hr
   have h := kr15
   have hh := Option.some.inj h
   subst hh
   refine NWp.ret ?_
   refine And.intro (fun hn => nomatch hn) ?_
   intro hq
   have hq := hq.symm
   subst hq
   show FQ _ _ _ _
   exact FQ.mk1 (.inr rfl) (res_t (v := vb false) rfl rfl) (RV.d trivial)
  ·
   replace h := iteF hc14 h
   refine NWp.condF (t := y12) rfl hc14 ?_
   refine NWp.skip ?_
   have hh := Option.some.inj h
   subst hh
   refine NWp.opsE ⟨tab [(0, vl2 a0), (1, vi a1), (7, vl2 a0), (8, vi (a0.length : Int)), (9, vi (i1 + 1))], stab [], 0⟩ ?_ ?_
   ·
    refine step (v := vi (i1 + 1)) (st_inc (inc_ok hinv4 hgo3 hB2) rfl rfl) ?_
    refine q1 _ ?_
    exact nR []
   exact And.intro rfl rfl
 ·
  rintro i1 ⟨⟩ hinv4 hgo3
  show NWp _ _ _ _ _ ⟨tab [(0, vl2 a0), (1, vi a1), (7, vl2 a0), (8, vi (a0.length : Int)), (9, vi i1)], stab [], 0⟩
  have hc5 : ¬ (decide (i1 < (a0.length : Int)) = true) := fun hq => hgo3 (of_decide_eq_true hq)
  refine NWp.opsJ ⟨tab [(0, vl2 a0), (1, vi a1), (7, vl2 a0), (8, vi (a0.length : Int)), (9, vi i1), (10, vb (decide (i1 < (a0.length : Int))))], stab [], 0⟩ ?_ ?_
  ·
   refine q1 _ ?_
   exact nR []
  refine NWp.seq ?_
  refine NWp.condF (t := decide (i1 < (a0.length : Int))) rfl hc5 ?_
  refine NWp.norm (s0 := ⟨tab [], stab [], 0⟩) (nr []) ?_
  refine NWp.exit ?_
  exact And.intro rfl rfl
 ·
  intro r' hq
  subst hq
  exact Option.some.inj h
 rintro ⟨⟩ rfl
 refine NWp.opsJ ⟨tab [(4, vb true)], stab [], 0⟩ ?_ ?_
 ·
  refine q1 _ ?_
  exact nR []
 have hh := Option.some.inj h
 subst hh
 refine NWp.ret ?_
 show FQ _ _ _ _
 exact FQ.mk1 (.inr rfl) (res_t (v := vb true) rfl rfl) (RV.d trivial)

theorem c_syntax_Check {a0 : api_Program} {r : Int} (h : syntax_Check a0 = some r) : PCall Try.prog 65 [eapi_Program a0] (.int .i64 r) := by
 refine PCall.introN ok65 (show 1 ≤ 95 by decide) ?_
 refine NWp.norm (s0 := ⟨tab [(0, vs3 a0)], stab [], 0⟩) (nr []) ?_
 refine NWp.opsJ ⟨tab [(1, vp2 a0)], stab [], 0⟩ ?_ ?_
 ·
  iterate 2 refine q1 _ ?_
  exact nR []
 refine NWp.opsJ ⟨tab [(1, vp2 a0), (3, vi (a0.Init.length : Int))], stab [], 0⟩ ?_ ?_
 ·
  iterate 2 refine q1 _ ?_
  refine step (v := vi (a0.Init.length : Int)) (st_len (xs := a0.Init) (e := (D.int .u16)) rfl) ?_
  refine q1 _ ?_
  exact nR []
 refine NWp.seq ?_
 obtain ⟨y7, hv, h⟩ := bindE h
 refine NWp.opsJ ⟨tab [(1, vp2 a0), (3, vi (a0.Init.length : Int)), (33, vb y7)], stab [], 0⟩ ?_ ?_
 ·
  iterate 3 refine q1 _ ?_
  by_cases hg1 : decide ((a0.Init.length : Int) < 1) = true
  ·
   replace hv := iteT hg1 hv
   iterate 2 refine qX (decide ((a0.Init.length : Int) < 1)) (by rw [hg1]; decide) ?_
   refine step (v := vb true) (st_pickT (b := decide ((a0.Init.length : Int) < 1)) rfl hg1 rfl) ?_
   refine q1 _ ?_
   iterate 4 refine qX true (by decide) ?_
   refine step (v := vb true) (st_pickT (b := true) rfl rfl rfl) ?_
   refine q1 _ ?_
   iterate 4 refine qX true (by decide) ?_
   refine step (v := vb true) (st_pickT (b := true) rfl rfl rfl) ?_
   refine q1 _ ?_
   iterate 4 refine qX true (by decide) ?_
   refine step (v := vb true) (st_pickT (b := true) rfl rfl rfl) ?_
   have hh := Option.some.inj hv
   subst hh
   exact nR []
  ·
   replace hv := iteF hg1 hv
   refine qG (decide ((a0.Init.length : Int) < 1)) (Bool.eq_false_iff.2 hg1) ?_
   refine q1 _ ?_
   refine qG (decide ((a0.Init.length : Int) < 1)) (Bool.eq_false_iff.2 hg1) ?_
   refine q1 _ ?_
   refine step (v := vb (decide ((a0.Init.length : Int) > 4))) (st_pickF (b := decide ((a0.Init.length : Int) < 1)) rfl hg1 rfl) ?_
   refine q1 _ ?_
   by_cases hg2 : decide ((a0.Init.length : Int) > 4) = true
   ·
    replace hv := iteT hg2 hv
    iterate 4 refine qX (decide ((a0.Init.length : Int) > 4)) (by rw [hg2]; decide) ?_
    refine step (v := vb true) (st_pickT (b := decide ((a0.Init.length : Int) > 4)) rfl hg2 rfl) ?_
    refine q1 _ ?_
    iterate 4 refine qX true (by decide) ?_
    refine step (v := vb true) (st_pickT (b := true) rfl rfl rfl) ?_
    refine q1 _ ?_
    iterate 4 refine qX true (by decide) ?_
    refine step (v := vb true) (st_pickT (b := true) rfl rfl rfl) ?_
    have hh := Option.some.inj hv
    subst hh
    exact nR []
   ·
    replace hv := iteF hg2 hv
    obtain ⟨r3, hr3, hv⟩ := bindE hv
    refine qG (decide ((a0.Init.length : Int) > 4)) (Bool.eq_false_iff.2 hg2) ?_
    refine q1 _ ?_
    refine qG (decide ((a0.Init.length : Int) > 4)) (Bool.eq_false_iff.2 hg2) ?_
    refine q1 _ ?_
    refine qG (decide ((a0.Init.length : Int) > 4)) (Bool.eq_false_iff.2 hg2) ?_
    refine stepC (r := .int .i64 r3) (ArgsOk.dt ArgsOk.nil') (c_syntax_Size hr3) ?_
    refine qG (decide ((a0.Init.length : Int) > 4)) (Bool.eq_false_iff.2 hg2) ?_
    refine q1 _ ?_
    refine step (v := vb (decide (r3 > 300))) (st_pickF (b := decide ((a0.Init.length : Int) > 4)) rfl hg2 rfl) ?_
    refine q1 _ ?_
    by_cases hg4 : decide (r3 > 300) = true
    ·
     replace hv := iteT hg4 hv
     iterate 4 refine qX (decide (r3 > 300)) (by rw [hg4]; decide) ?_
     refine step (v := vb true) (st_pickT (b := decide (r3 > 300)) rfl hg4 rfl) ?_
     refine q1 _ ?_
     iterate 4 refine qX true (by decide) ?_
     refine step (v := vb true) (st_pickT (b := true) rfl rfl rfl) ?_
     have hh := Option.some.inj hv
     subst hh
     exact nR []
    ·
     replace hv := iteF hg4 hv
     obtain ⟨r5, hr5, hv⟩ := bindE hv
     refine qG (decide (r3 > 300)) (Bool.eq_false_iff.2 hg4) ?_
     refine q1 _ ?_
     refine qG (decide (r3 > 300)) (Bool.eq_false_iff.2 hg4) ?_
     refine q1 _ ?_
     refine qG (decide (r3 > 300)) (Bool.eq_false_iff.2 hg4) ?_
     refine stepC (r := .int .i64 r5) (ArgsOk.dt ArgsOk.nil') (c_syntax_Depth hr5) ?_
     refine qG (decide (r3 > 300)) (Bool.eq_false_iff.2 hg4) ?_
     refine q1 _ ?_
     refine step (v := vb (decide (r5 > 20))) (st_pickF (b := decide (r3 > 300)) rfl hg4 rfl) ?_
     refine q1 _ ?_
     by_cases hg6 : decide (r5 > 20) = true
     ·
      replace hv := iteT hg6 hv
      iterate 4 refine qX (decide (r5 > 20)) (by rw [hg6]; decide) ?_
      refine step (v := vb true) (st_pickT (b := decide (r5 > 20)) rfl hg6 rfl) ?_
      have hh := Option.some.inj hv
      subst hh
      exact nR []
     ·
      replace hv := iteF hg6 hv
      refine qG (decide (r5 > 20)) (Bool.eq_false_iff.2 hg6) ?_
      refine q1 _ ?_
      refine qG (decide (r5 > 20)) (Bool.eq_false_iff.2 hg6) ?_
      refine q1 _ ?_
      refine qG (decide (r5 > 20)) (Bool.eq_false_iff.2 hg6) ?_
      refine step (v := vi (a0.Rules.length : Int)) (st_len (xs := a0.Rules) (e := eapi_Rule) rfl) ?_
      refine qG (decide (r5 > 20)) (Bool.eq_false_iff.2 hg6) ?_
      refine q1 _ ?_
      refine step (v := vb (decide ((a0.Rules.length : Int) > 24))) (st_pickF (b := decide (r5 > 20)) rfl hg6 rfl) ?_
      have hh := Option.some.inj hv
      subst hh
      exact nR []
 by_cases hc9 : y7 = true
 ·
  replace h := iteT hc9 h
  refine NWp.condT (t := y7) rfl hc9 ?_
  refine NWp.opsJ ⟨tab [(2, vi 2)], stab [], 0⟩ ?_ ?_
  ·
   refine q1 _ ?_
   exact nR []
  have hh := Option.some.inj h
  subst hh
  refine NWp.ret ?_
  show FQ _ _ _ _
  exact FQ.mk1 (.inr rfl) (res_t (v := vi 2) rfl rfl) (RV.d trivial)
 ·
  replace h := iteF hc9 h
  refine NWp.condF (t := y7) rfl hc9 ?_
  refine NWp.skip ?_
  refine NWp.seq ?_
  obtain ⟨r10, hr10, h⟩ := bindE h
  refine NWp.opsJ ⟨tab [(1, vp2 a0), (3, vi (a0.Init.length : Int)), (38, vb (!r10))], stab [], 0⟩ ?_ ?_
  ·
   iterate 3 refine q1 _ ?_
   refine stepC (r := .bool r10) (ArgsOk.dt (ArgsOk.dt ArgsOk.nil')) (c_syntax_formed hr10) ?_
   refine q1 _ ?_
   exact nR []
  by_cases hc11 : (!r10) = true
  ·
   replace h := iteT hc11 h
   refine NWp.condT (t := (!r10)) rfl hc11 ?_
   refine NWp.opsJ ⟨tab [(2, vi 11)], stab [], 0⟩ ?_ ?_
   ·
    refine q1 _ ?_
    exact nR []
   have hh := Option.some.inj h
   subst hh
   refine NWp.ret ?_
   show FQ _ _ _ _
   exact FQ.mk1 (.inr rfl) (res_t (v := vi 11) rfl rfl) (RV.d trivial)
  ·
   replace h := iteF hc11 h
   refine NWp.condF (t := (!r10)) rfl hc11 ?_
   refine NWp.skip ?_
   refine NWp.seq ?_
   refine NWp.opsJ ⟨tab [(3, vi (a0.Init.length : Int)), (40, vl4 a0.Rules), (41, vi (a0.Rules.length : Int)), (42, vi 0)], stab [], 0⟩ ?_ ?_
   ·
    iterate 2 refine q1 _ ?_
    refine step (v := vi (a0.Rules.length : Int)) (st_len (xs := a0.Rules) (e := eapi_Rule) rfl) ?_
    refine q1 _ ?_
    exact nR []
   obtain ⟨q35, hl, h⟩ := bindE h
   refine NWp.block ?_
   refine loop_forR (cntU (a0.Rules.length : Int)) (fun (i12 : Int) (qq : Unit) => ⟨tab [(3, vi (a0.Init.length : Int)), (40, vl4 a0.Rules), (41, vi (a0.Rules.length : Int)), (42, vi i12)], stab [], 0⟩) 0 (fun (qq : Unit) => ⟨tab [], stab [], 0⟩) Low low_step (r := r) hl (by unfold Low; omega) ?_ ?_ ?_ ?_
   ·
    rintro i12 ⟨⟩ xr17 hinv15 hgo14 h
    show NWp _ _ _ _ _ ⟨tab [(3, vi (a0.Init.length : Int)), (40, vl4 a0.Rules), (41, vi (a0.Rules.length : Int)), (42, vi i12)], stab [], 0⟩
    have hc16 : decide (i12 < (a0.Rules.length : Int)) = true := decide_eq_true hgo14
    refine NWp.opsJ ⟨tab [(3, vi (a0.Init.length : Int)), (40, vl4 a0.Rules), (41, vi (a0.Rules.length : Int)), (42, vi i12), (43, vb (decide (i12 < (a0.Rules.length : Int))))], stab [], 0⟩ ?_ ?_
    ·
     refine q1 _ ?_
     exact nR []
    refine NWp.rng 41 rfl fun hB13 => ?_
    refine NWp.seq ?_
    refine NWp.condT (t := decide (i12 < (a0.Rules.length : Int))) rfl hc16 ?_
    refine NWp.skip ?_
    refine NWp.seq ?_
    refine NWp.block ?_
    obtain ⟨x18, hx18, h⟩ := bindE h
    refine NWp.opsJ ⟨tab [(3, vi (a0.Init.length : Int)), (5, .ptr 0 0 0), (40, vl4 a0.Rules), (41, vi (a0.Rules.length : Int)), (42, vi i12)], stab [(0, bv0 x18)], 1⟩ ?_ ?_
    ·
     refine step (v := vp3 x18) (st_iaddr (xs := a0.Rules) (e := eapi_Rule) hx18 rfl rfl) ?_
     refine q1 _ ?_
     refine step (v := .ptr 0 0 0) (σ' := (upd (stab []) 0 (some (.var [vl2 [], vl2 [], vl2 []])))) (n' := 1) rfl ?_
     refine step (v := V.undef) (σ' := (upd (upd (stab []) 0 (some (.var [vl2 [], vl2 [], vl2 []]))) 0 (some (bv0 x18)))) (n' := 1) rfl ?_
     exact nR [0]
    obtain ⟨y23, hv, h⟩ := bindE h
    refine NWp.opsJ ⟨tab [(3, vi (a0.Init.length : Int)), (5, .ptr 0 0 0), (6, vb y23), (40, vl4 a0.Rules), (41, vi (a0.Rules.length : Int)), (42, vi i12)], stab [(0, bv0 x18)], 1⟩ ?_ ?_
    ·
     iterate 2 refine q1 _ ?_
     refine step (v := vi (x18.When.length : Int)) (st_len (xs := x18.When) (e := eapi_Pair) rfl) ?_
     iterate 2 refine q1 _ ?_
     by_cases hg19 : decide ((x18.When.length : Int) ≥ 2) = true
     ·
      replace hv := iteT hg19 hv
      obtain ⟨x20, hx20, hv⟩ := bindE hv
      refine qG _ hg19 ?_
      refine q1 _ ?_
      refine qG _ hg19 ?_
      refine q1 _ ?_
      refine qG _ hg19 ?_
      refine step (v := vp4 x20) (st_iaddr (xs := x18.When) (e := eapi_Pair) hx20 rfl rfl) ?_
      refine qG _ hg19 ?_
      refine q1 _ ?_
      refine qG _ hg19 ?_
      refine q1 _ ?_
      refine qG _ hg19 ?_
      refine q1 _ ?_
      refine step (v := vb (x20.F == 0)) (st_pickT (b := decide ((x18.When.length : Int) ≥ 2)) rfl hg19 rfl) ?_
      refine q1 _ ?_
      by_cases hg21 : (x20.F == 0) = true
      ·
       replace hv := iteT hg21 hv
       obtain ⟨x22, hx22, hv⟩ := bindE hv
       refine qG _ hg21 ?_
       refine q1 _ ?_
       refine qG _ hg21 ?_
       refine q1 _ ?_
       refine qG _ hg21 ?_
       refine step (v := vp4 x22) (st_iaddr (xs := x18.When) (e := eapi_Pair) hx22 rfl rfl) ?_
       refine qG _ hg21 ?_
       refine q1 _ ?_
       refine qG _ hg21 ?_
       refine q1 _ ?_
       refine qG _ hg21 ?_
       refine q1 _ ?_
       refine step (v := vb (x22.F == 1)) (st_pickT (b := (x20.F == 0)) rfl hg21 rfl) ?_
       refine q1 _ ?_
       have hh := Option.some.inj hv
       subst hh
       exact nR [0]
      ·
       replace hv := iteF hg21 hv
       iterate 6 refine qX _ hg21 ?_
       refine step (v := vb false) (st_pickF (b := (x20.F == 0)) rfl hg21 rfl) ?_
       refine q1 _ ?_
       have hh := Option.some.inj hv
       subst hh
       exact nR [0]
     ·
      replace hv := iteF hg19 hv
      iterate 6 refine qX _ hg19 ?_
      refine step (v := vb false) (st_pickF (b := decide ((x18.When.length : Int) ≥ 2)) rfl hg19 rfl) ?_
      refine q1 _ ?_
      iterate 6 refine qX false (by decide) ?_
      refine step (v := vb false) (st_pickF (b := false) rfl (by decide) rfl) ?_
      refine q1 _ ?_
      have hh := Option.some.inj hv
      subst hh
      exact nR [0]
    obtain ⟨y32, hv, h⟩ := bindE h
    refine NWp.opsJ ⟨tab [(3, vi (a0.Init.length : Int)), (40, vl4 a0.Rules), (41, vi (a0.Rules.length : Int)), (42, vi i12), (93, vb y32)], stab [], 0⟩ ?_ ?_
    ·
     iterate 3 refine q1 _ ?_
     by_cases hg25 : (!y23) = true
     ·
      replace hv := iteT hg25 hv
      iterate 4 refine qX (!y23) (by rw [hg25]; decide) ?_
      refine step (v := vb true) (st_pickT (b := (!y23)) rfl hg25 rfl) ?_
      refine q1 _ ?_
      iterate 5 refine qX true (by decide) ?_
      refine step (v := vb true) (st_pickT (b := true) rfl rfl rfl) ?_
      refine q1 _ ?_
      iterate 5 refine qX true (by decide) ?_
      refine step (v := vb true) (st_pickT (b := true) rfl rfl rfl) ?_
      refine q1 _ ?_
      iterate 4 refine qX true (by decide) ?_
      refine step (v := vb true) (st_pickT (b := true) rfl rfl rfl) ?_
      have hh := Option.some.inj hv
      subst hh
      exact nR []
     ·
      replace hv := iteF hg25 hv
      obtain ⟨r26, hr26, hv⟩ := bindE hv
      refine qG (!y23) (Bool.eq_false_iff.2 hg25) ?_
      refine q1 _ ?_
      refine qG (!y23) (Bool.eq_false_iff.2 hg25) ?_
      refine q1 _ ?_
      refine qG (!y23) (Bool.eq_false_iff.2 hg25) ?_
      refine stepC (r := .bool r26) (ArgsOk.dt (ArgsOk.dt ArgsOk.nil')) (c_syntax_once hr26) ?_
      refine qG (!y23) (Bool.eq_false_iff.2 hg25) ?_
      refine q1 _ ?_
      refine step (v := vb (!r26)) (st_pickF (b := (!y23)) rfl hg25 rfl) ?_
      refine q1 _ ?_
      by_cases hg27 : (!r26) = true
      ·
       replace hv := iteT hg27 hv
       iterate 5 refine qX (!r26) (by rw [hg27]; decide) ?_
       refine step (v := vb true) (st_pickT (b := (!r26)) rfl hg27 rfl) ?_
       refine q1 _ ?_
       iterate 5 refine qX true (by decide) ?_
       refine step (v := vb true) (st_pickT (b := true) rfl rfl rfl) ?_
       refine q1 _ ?_
       iterate 4 refine qX true (by decide) ?_
       refine step (v := vb true) (st_pickT (b := true) rfl rfl rfl) ?_
       have hh := Option.some.inj hv
       subst hh
       exact nR []
      ·
       replace hv := iteF hg27 hv
       obtain ⟨r28, hr28, hv⟩ := bindE hv
       refine qG (!r26) (Bool.eq_false_iff.2 hg27) ?_
       refine q1 _ ?_
       refine qG (!r26) (Bool.eq_false_iff.2 hg27) ?_
       refine q1 _ ?_
       refine qG (!r26) (Bool.eq_false_iff.2 hg27) ?_
       refine q1 _ ?_
       refine qG (!r26) (Bool.eq_false_iff.2 hg27) ?_
       refine stepC (r := .bool r28) (ArgsOk.dt (ArgsOk.dt ArgsOk.nil')) (c_syntax_once hr28) ?_
       refine qG (!r26) (Bool.eq_false_iff.2 hg27) ?_
       refine q1 _ ?_
       refine step (v := vb (!r28)) (st_pickF (b := (!r26)) rfl hg27 rfl) ?_
       refine q1 _ ?_
       by_cases hg29 : (!r28) = true
       ·
        replace hv := iteT hg29 hv
        iterate 5 refine qX (!r28) (by rw [hg29]; decide) ?_
        refine step (v := vb true) (st_pickT (b := (!r28)) rfl hg29 rfl) ?_
        refine q1 _ ?_
        iterate 4 refine qX true (by decide) ?_
        refine step (v := vb true) (st_pickT (b := true) rfl rfl rfl) ?_
        have hh := Option.some.inj hv
        subst hh
        exact nR []
       ·
        replace hv := iteF hg29 hv
        obtain ⟨r30, hr30, hv⟩ := bindE hv
        refine qG (!r28) (Bool.eq_false_iff.2 hg29) ?_
        refine q1 _ ?_
        refine qG (!r28) (Bool.eq_false_iff.2 hg29) ?_
        refine q1 _ ?_
        refine qG (!r28) (Bool.eq_false_iff.2 hg29) ?_
        refine q1 _ ?_
        refine qG (!r28) (Bool.eq_false_iff.2 hg29) ?_
        refine stepC (r := .bool r30) (ArgsOk.dt (ArgsOk.dt ArgsOk.nil')) (c_syntax_once hr30) ?_
        refine qG (!r28) (Bool.eq_false_iff.2 hg29) ?_
        refine q1 _ ?_
        refine step (v := vb (!r30)) (st_pickF (b := (!r28)) rfl hg29 rfl) ?_
        refine q1 _ ?_
        by_cases hg31 : (!r30) = true
        ·
         replace hv := iteT hg31 hv
         iterate 4 refine qX (!r30) (by rw [hg31]; decide) ?_
         refine step (v := vb true) (st_pickT (b := (!r30)) rfl hg31 rfl) ?_
         have hh := Option.some.inj hv
         subst hh
         exact nR []
        ·
         replace hv := iteF hg31 hv
         refine qG (!r30) (Bool.eq_false_iff.2 hg31) ?_
         refine q1 _ ?_
         refine qG (!r30) (Bool.eq_false_iff.2 hg31) ?_
         refine q1 _ ?_
         refine qG (!r30) (Bool.eq_false_iff.2 hg31) ?_
         refine step (v := vi (x18.Then.length : Int)) (st_len (xs := x18.Then) (e := eapi_Pair) rfl) ?_
         refine qG (!r30) (Bool.eq_false_iff.2 hg31) ?_
         refine q1 _ ?_
         refine step (v := vb ((x18.Then.length : Int) == 0)) (st_pickF (b := (!r30)) rfl hg31 rfl) ?_
         have hh := Option.some.inj hv
         subst hh
         exact nR []
    by_cases hc34 : y32 = true
    ·
     replace h := iteT hc34 h
     refine NWp.condT (t := y32) rfl hc34 ?_
     refine NWp.opsJ ⟨tab [(2, vi 11)], stab [], 0⟩ ?_ ?_
     ·
      refine q1 _ ?_
      exact nR []
     obtain ⟨r35, kr35, hr⟩ := mapE (o := some 11) (g := Br.ret) h
     subst hr
     have h := kr35
     have hh := Option.some.inj h
     subst hh
     refine NWp.ret ?_
     refine And.intro (fun hn => nomatch hn) ?_
     intro hq
     have hq := hq.symm
     subst hq
     show FQ _ _ _ _
     exact FQ.mk1 (.inr rfl) (res_t (v := vi 11) rfl rfl) (RV.d trivial)
    ·
     replace h := iteF hc34 h
     refine NWp.condF (t := y32) rfl hc34 ?_
     refine NWp.skip ?_
     have hh := Option.some.inj h
     subst hh
     refine NWp.opsE ⟨tab [(3, vi (a0.Init.length : Int)), (40, vl4 a0.Rules), (41, vi (a0.Rules.length : Int)), (42, vi (i12 + 1))], stab [], 0⟩ ?_ ?_
     ·
      refine step (v := vi (i12 + 1)) (st_inc (inc_ok hinv15 hgo14 hB13) rfl rfl) ?_
      refine q1 _ ?_
      exact nR []
     exact And.intro rfl rfl
   ·
    rintro i12 ⟨⟩ hinv15 hgo14
    show NWp _ _ _ _ _ ⟨tab [(3, vi (a0.Init.length : Int)), (40, vl4 a0.Rules), (41, vi (a0.Rules.length : Int)), (42, vi i12)], stab [], 0⟩
    have hc16 : ¬ (decide (i12 < (a0.Rules.length : Int)) = true) := fun hq => hgo14 (of_decide_eq_true hq)
    refine NWp.opsJ ⟨tab [(3, vi (a0.Init.length : Int)), (40, vl4 a0.Rules), (41, vi (a0.Rules.length : Int)), (42, vi i12), (43, vb (decide (i12 < (a0.Rules.length : Int))))], stab [], 0⟩ ?_ ?_
    ·
     refine q1 _ ?_
     exact nR []
    refine NWp.seq ?_
    refine NWp.condF (t := decide (i12 < (a0.Rules.length : Int))) rfl hc16 ?_
    refine NWp.norm (s0 := ⟨tab [], stab [], 0⟩) (nr []) ?_
    refine NWp.exit ?_
    exact And.intro rfl rfl
   ·
    intro r' hq
    subst hq
    exact Option.some.inj h
   rintro ⟨⟩ rfl
   refine NWp.opsJ ⟨tab [(2, vi 0)], stab [], 0⟩ ?_ ?_
   ·
    refine q1 _ ?_
    exact nR []
   have hh := Option.some.inj h
   subst hh
   refine NWp.ret ?_
   show FQ _ _ _ _
   exact FQ.mk1 (.inr rfl) (res_t (v := vi 0) rfl rfl) (RV.d trivial)

theorem c_slices_Clone_uint16 {a0 : List Int} {r : List Int} (h : slices_Clone_uint16 a0 = some r) : SCall Try.prog 67 [.d (.vec none (List.map (D.int .u16) a0))] (stab []) 0 (.loc 0 0 r.length) (stab [(0, .lst true none (List.map (D.int .u16) r))]) 1 := by
 cases a0 with
 | nil =>
  refine SCall.empty ?_ ?_
  ·
   have h : some ([] : List Int) = some r := by simpa [slices_Clone_uint16, gapp] using h
   refine SCall.introN (bl := []) (bl' := [(0, .lst true none (List.map (D.int .u16) r))]) ok67 (show 1 ≤ 8 by decide) rfl ?_
   refine NWp.norm (s0 := ⟨tab [(0, .d (.nils))], stab [], 0⟩) (nr []) ?_
   refine NWp.opsJ ⟨tab [(0, .d (.nils))], stab [], 0⟩ ?_ ?_
   ·
    refine q1 _ ?_
    exact nR []
   refine NWp.seq ?_
   refine NWp.opsJ ⟨tab [(0, .d (.nils)), (4, vb true)], stab [], 0⟩ ?_ ?_
   ·
    iterate 2 refine q1 _ ?_
    exact nR []
   refine NWp.condT (t := true) rfl rfl ?_
   refine NWp.opsJ ⟨tab [(2, .d (.nils))], stab [], 0⟩ ?_ ?_
   ·
    refine q1 _ ?_
    exact nR []
   have hh := Option.some.inj h
   subst hh
   refine NWp.norm (s0 := ⟨tab [(2, .loc 0 0 (([] : List Int).length))], stab [(0, .lst true none (List.map (D.int .u16) ([] : List Int)))], 1⟩) (Norm.trans (s2 := ⟨tab [(2, .loc 0 0 (([] : List Int).length))], stab [(0, .lst true none (List.map (D.int .u16) ([] : List Int)))], 1⟩) (Norm.nil1 2 true none rfl) (nr [0])) ?_
   refine NWp.ret ?_
   exact ⟨.inr rfl, _, rfl, rfl, AllS.sub ⟨rfl, trivial⟩, rfl⟩
  ·
   refine SCall.introN (bl := []) (bl' := [(0, .lst true none (List.map (D.int .u16) r))]) ok67 (show 1 ≤ 8 by decide) rfl ?_
   refine NWp.norm (s0 := ⟨tab [(0, .mapr 0)], stab [], 0⟩) (nm [] ⟨.mp _, trivial⟩ trivial) ?_
   refine NWp.opsJ ⟨tab [(0, .mapr 0)], stab [], 0⟩ ?_ ?_
   ·
    refine q1 _ ?_
    exact RunOps.nil' (nm [] ⟨.mp _, trivial⟩ trivial)
   refine NWp.seq ?_
   refine NWp.opsJ ⟨tab [(0, vl1 ([] : List Int)), (4, vb false)], stab [], 0⟩ ?_ ?_
   ·
    iterate 2 refine q1 _ ?_
    exact RunOps.nil' (nm [] ⟨.nne _ _, .d _, trivial⟩ trivial)
   refine NWp.condF (t := false) rfl (by decide) ?_
   refine NWp.skip ?_
   obtain ⟨l1, hl1, h⟩ := bindE h
   refine NWp.opsJ ⟨tab [(2, .loc 0 0 l1.length)], stab [(0, .lst true none (List.map (D.int .u16) l1))], 1⟩ ?_ ?_
   ·
    refine step (v := .loc 0 0 (([] : List Int).length)) (σ' := (upd (stab []) 0 (some (.lst true none (List.map (D.int .u16) ([] : List Int)))))) (n' := 1) rfl ?_
    refine q1 _ ?_
    refine step (v := .loc 1 0 l1.length) (σ' := (upd (upd (upd (stab []) 0 (some (.lst true none (List.map (D.int .u16) ([] : List Int))))) 0 none) 1 (some (.lst true none (List.map (D.int .u16) l1))))) (n' := 2) (st_app (xs := ([] : List Int)) (ys := ([] : List Int)) (e := (D.int .u16)) hl1 rfl rfl rfl (src_v (xs := ([] : List Int)) (e := (D.int .u16)) rfl)) ?_
    refine q1 _ ?_
    exact nR [1]
   have hh := Option.some.inj h
   subst hh
   refine NWp.ret ?_
   exact ⟨.inr rfl, _, rfl, rfl, AllS.sub ⟨rfl, trivial⟩, rfl⟩
 | cons x xs =>
  refine SCall.introN (bl := []) (bl' := [(0, .lst true none (List.map (D.int .u16) r))]) ok67 (show 1 ≤ 8 by decide) rfl ?_
  refine NWp.norm (s0 := ⟨tab [(0, vl1 (x :: xs))], stab [], 0⟩) (nr []) ?_
  refine NWp.opsJ ⟨tab [(0, vl1 (x :: xs))], stab [], 0⟩ ?_ ?_
  ·
   refine q1 _ ?_
   exact nR []
  refine NWp.seq ?_
  refine NWp.opsJ ⟨tab [(0, vl1 (x :: xs)), (4, vb false)], stab [], 0⟩ ?_ ?_
  ·
   iterate 2 refine q1 _ ?_
   exact nR []
  refine NWp.condF (t := false) rfl (by decide) ?_
  refine NWp.skip ?_
  obtain ⟨l1, hl1, h⟩ := bindE h
  refine NWp.opsJ ⟨tab [(2, .loc 0 0 l1.length)], stab [(0, .lst true none (List.map (D.int .u16) l1))], 1⟩ ?_ ?_
  ·
   refine step (v := .loc 0 0 (([] : List Int).length)) (σ' := (upd (stab []) 0 (some (.lst true none (List.map (D.int .u16) ([] : List Int)))))) (n' := 1) rfl ?_
   refine q1 _ ?_
   refine step (v := .loc 1 0 l1.length) (σ' := (upd (upd (upd (stab []) 0 (some (.lst true none (List.map (D.int .u16) ([] : List Int))))) 0 none) 1 (some (.lst true none (List.map (D.int .u16) l1))))) (n' := 2) (st_app (xs := ([] : List Int)) (ys := (x :: xs)) (e := (D.int .u16)) hl1 rfl rfl rfl (src_v (xs := (x :: xs)) (e := (D.int .u16)) rfl)) ?_
   refine q1 _ ?_
   exact nR [1]
  have hh := Option.some.inj h
  subst hh
  refine NWp.ret ?_
  exact ⟨.inr rfl, _, rfl, rfl, AllS.sub ⟨rfl, trivial⟩, rfl⟩

theorem c_space_key {a0 : (List Int)} {r : ByteArray} (h : space_key a0 = some r) : PCall Try.prog 87 [eL none (D.int .u16) a0] (.str r) := by
 refine PCall.introN ok87 (show 1 ≤ 23 by decide) ?_
 refine NWp.norm (s0 := ⟨tab [(0, vl1 a0)], stab [], 0⟩) (nr []) ?_
 refine NWp.opsJ ⟨tab [(0, vl1 a0)], stab [], 0⟩ ?_ ?_
 ·
  refine q1 _ ?_
  exact nR []
 refine NWp.opsJ ⟨tab [(0, vl1 a0), (3, .d (.nils))], stab [], 0⟩ ?_ ?_
 ·
  refine q1 _ ?_
  exact nR []
 refine NWp.seq ?_
 refine NWp.opsJ ⟨tab [(3, .d (.nils)), (6, vl1 a0), (7, vi (a0.length : Int)), (8, vi 0)], stab [], 0⟩ ?_ ?_
 ·
  refine q1 _ ?_
  refine step (v := vi (a0.length : Int)) (st_len (xs := a0) (e := (D.int .u16)) rfl) ?_
  refine q1 _ ?_
  exact nR []
 obtain ⟨z10, hl, h⟩ := bindE h
 refine NWp.norm (s0 := ⟨tab [(3, .loc 0 0 (([] : List Int).length)), (6, vl1 a0), (7, vi (a0.length : Int)), (8, vi 0)], stab [(0, .lst false none (List.map (D.int .u8) ([] : List Int)))], 1⟩) (Norm.trans (s2 := ⟨tab [(3, .loc 0 0 (([] : List Int).length)), (6, vl1 a0), (7, vi (a0.length : Int)), (8, vi 0)], stab [(0, .lst false none (List.map (D.int .u8) ([] : List Int)))], 1⟩) (Norm.nil1 3 false none rfl) (nr [0])) ?_
 refine NWp.block ?_
 refine loop_forO (cntU (a0.length : Int)) (fun (i2 : Int) (qq : (List Int)) => ⟨tab [(3, .loc 0 0 qq.length), (6, vl1 a0), (7, vi (a0.length : Int)), (8, vi i2)], stab [(0, .lst false none (List.map (D.int .u8) qq))], 1⟩) 0 (fun (qq : (List Int)) => ⟨tab [(3, .loc 0 0 qq.length)], stab [(0, .lst false none (List.map (D.int .u8) qq))], 1⟩) Low low_step hl (by unfold Low; omega) ?_ ?_ ?_
 ·
  rintro i2 l1 xr7 hinv5 hgo4 h
  show NWp _ _ _ _ _ ⟨tab [(3, .loc 0 0 l1.length), (6, vl1 a0), (7, vi (a0.length : Int)), (8, vi i2)], stab [(0, .lst false none (List.map (D.int .u8) l1))], 1⟩
  have hc6 : decide (i2 < (a0.length : Int)) = true := decide_eq_true hgo4
  refine NWp.opsJ ⟨tab [(3, .loc 0 0 l1.length), (6, vl1 a0), (7, vi (a0.length : Int)), (8, vi i2), (9, vb (decide (i2 < (a0.length : Int))))], stab [(0, .lst false none (List.map (D.int .u8) l1))], 1⟩ ?_ ?_
  ·
   refine q1 _ ?_
   exact nR [0]
  refine NWp.rng 7 rfl fun hB3 => ?_
  refine NWp.seq ?_
  refine NWp.condT (t := decide (i2 < (a0.length : Int))) rfl hc6 ?_
  refine NWp.skip ?_
  refine NWp.seq ?_
  refine NWp.block ?_
  obtain ⟨x8, hx8, h⟩ := bindE h
  refine NWp.opsJ ⟨tab [(3, .loc 0 0 l1.length), (5, vh x8), (6, vl1 a0), (7, vi (a0.length : Int)), (8, vi i2)], stab [(0, .lst false none (List.map (D.int .u8) l1))], 1⟩ ?_ ?_
  ·
   refine step (v := .d (.cptr none (.int .u16 x8) 0)) (st_iaddr (xs := a0) (e := (D.int .u16)) hx8 rfl rfl) ?_
   iterate 2 refine q1 _ ?_
   exact nR [0]
  obtain ⟨l9, hl9, h⟩ := bindE h
  refine NWp.opsE ⟨tab [(3, .loc 0 0 l9.length), (6, vl1 a0), (7, vi (a0.length : Int)), (8, vi i2)], stab [(0, .lst false none (List.map (D.int .u8) l9))], 1⟩ ?_ ?_
  ·
   iterate 7 refine q1 _ ?_
   refine step (v := .loc 1 0 l9.length) (σ' := (upd (upd (stab [(0, .lst false none (List.map (D.int .u8) l1))]) 0 none) 1 (some (.lst false none (List.map (D.int .u8) l9))))) (n' := 2) (st_app (xs := l1) (ys := ([IntKind.u8.wrap (x8.fdiv (2 ^ 8)), IntKind.u8.wrap x8] : List Int)) (e := (D.int .u8)) hl9 rfl rfl rfl (src_v (xs := ([IntKind.u8.wrap (x8.fdiv (2 ^ 8)), IntKind.u8.wrap x8] : List Int)) (e := (D.int .u8)) rfl)) ?_
   refine q1 _ ?_
   exact nR [1]
  have hh := Option.some.inj h
  subst hh
  refine NWp.opsE ⟨tab [(3, .loc 0 0 l9.length), (6, vl1 a0), (7, vi (a0.length : Int)), (8, vi (i2 + 1))], stab [(0, .lst false none (List.map (D.int .u8) l9))], 1⟩ ?_ ?_
  ·
   refine step (v := vi (i2 + 1)) (st_inc (inc_ok hinv5 hgo4 hB3) rfl rfl) ?_
   refine q1 _ ?_
   exact nR [0]
  exact And.intro rfl rfl
 ·
  rintro i2 l1 hinv5 hgo4
  show NWp _ _ _ _ _ ⟨tab [(3, .loc 0 0 l1.length), (6, vl1 a0), (7, vi (a0.length : Int)), (8, vi i2)], stab [(0, .lst false none (List.map (D.int .u8) l1))], 1⟩
  have hc6 : ¬ (decide (i2 < (a0.length : Int)) = true) := fun hq => hgo4 (of_decide_eq_true hq)
  refine NWp.opsJ ⟨tab [(3, .loc 0 0 l1.length), (6, vl1 a0), (7, vi (a0.length : Int)), (8, vi i2), (9, vb (decide (i2 < (a0.length : Int))))], stab [(0, .lst false none (List.map (D.int .u8) l1))], 1⟩ ?_ ?_
  ·
   refine q1 _ ?_
   exact nR [0]
  refine NWp.seq ?_
  refine NWp.condF (t := decide (i2 < (a0.length : Int))) rfl hc6 ?_
  refine NWp.norm (s0 := ⟨tab [(3, .loc 0 0 l1.length)], stab [(0, .lst false none (List.map (D.int .u8) l1))], 1⟩) (nr [0]) ?_
  refine NWp.exit ?_
  exact And.intro rfl rfl
 refine NWp.opsJ ⟨tab [(2, .d (.str (strOfB z10)))], stab [], 0⟩ ?_ ?_
 ·
  refine q1 _ ?_
  refine step (v := .d (.str (strOfB z10))) (st_b2sL (xs := z10) rfl rfl rfl) ?_
  refine q1 _ ?_
  exact nR []
 have hh := Option.some.inj h
 subst hh
 refine NWp.ret ?_
 show FQ _ _ _ _
 exact FQ.mk1 (.inr rfl) (res_t (v := .d (.str (strOfB z10))) rfl rfl) (RV.d trivial)

theorem c_space_explorer_place {a0 : space_explorer} {a1 : (List Int)} {r : (Int × space_explorer)} (h : space_explorer_place a0 a1 = some r) : SCall Try.prog 66 [.ptr 0 0 0, vl1 a1] (stab [(0, .var [.loc 1 0 a0.s.States.length, .loc 2 0 a0.s.Edges.length, .mref 3]), (1, .lst false none (List.map (eL none (D.int .u16)) a0.s.States)), (2, .lst false (some 3) (List.map eapi_Edge a0.s.Edges)), (3, .mp (eM D.str (D.int .i64) a0.at_))]) 4 (vi r.1) (stab [(0, .var [.loc 4 0 r.2.s.States.length, .loc 2 0 a0.s.Edges.length, .mref 3]), (2, .lst false (some 3) (List.map eapi_Edge a0.s.Edges)), (3, .mp (eM D.str (D.int .i64) r.2.at_)), (4, .lst false none (List.map (eL none (D.int .u16)) r.2.s.States))]) 5 := by
 refine SCall.introN (bl := [(0, .var [.loc 1 0 a0.s.States.length, .loc 2 0 a0.s.Edges.length, .mref 3]), (1, .lst false none (List.map (eL none (D.int .u16)) a0.s.States)), (2, .lst false (some 3) (List.map eapi_Edge a0.s.Edges)), (3, .mp (eM D.str (D.int .i64) a0.at_))]) (bl' := [(0, .var [.loc 4 0 r.2.s.States.length, .loc 2 0 a0.s.Edges.length, .mref 3]), (2, .lst false (some 3) (List.map eapi_Edge a0.s.Edges)), (3, .mp (eM D.str (D.int .i64) r.2.at_)), (4, .lst false none (List.map (eL none (D.int .u16)) r.2.s.States))]) ok66 (show 2 ≤ 45 by decide) rfl ?_
 refine NWp.norm (s0 := ⟨tab [(0, .ptr 0 0 0), (1, vl1 a1)], stab [(0, .var [.loc 1 0 a0.s.States.length, .loc 2 0 a0.s.Edges.length, .mref 3]), (1, .lst false none (List.map (eL none (D.int .u16)) a0.s.States)), (2, .lst false (some 3) (List.map eapi_Edge a0.s.Edges)), (3, .mp (eM D.str (D.int .i64) a0.at_))], 4⟩) (nm [0, 1, 2, 3] ⟨.pt 0, .d _, trivial⟩ ⟨⟨show 0 < 4 by decide, _, rfl, .vars ⟨.lc 1, .lc 2, .mref 3 (show 3 < 4 by decide), trivial⟩⟩, ⟨show 1 < 4 by decide, _, rfl, .lst _ _ _⟩, ⟨show 2 < 4 by decide, _, rfl, .lst _ _ _⟩, ⟨show 3 < 4 by decide, _, rfl, .mp _⟩, trivial⟩) ?_
 refine NWp.opsJ ⟨tab [(0, .ptr 0 0 0), (1, vl1 a1)], stab [(0, .var [.loc 1 0 a0.s.States.length, .loc 2 0 a0.s.Edges.length, .mref 3]), (1, .lst false none (List.map (eL none (D.int .u16)) a0.s.States)), (2, .lst false (some 3) (List.map eapi_Edge a0.s.Edges)), (3, .mp (eM D.str (D.int .i64) a0.at_))], 4⟩ ?_ ?_
 ·
  refine q1 _ ?_
  exact RunOps.nil' (nm [0, 1, 2, 3] ⟨.pt 0, .d _, trivial⟩ ⟨⟨show 0 < 4 by decide, _, rfl, .vars ⟨.lc 1, .lc 2, .mref 3 (show 3 < 4 by decide), trivial⟩⟩, ⟨show 1 < 4 by decide, _, rfl, .lst _ _ _⟩, ⟨show 2 < 4 by decide, _, rfl, .lst _ _ _⟩, ⟨show 3 < 4 by decide, _, rfl, .mp _⟩, trivial⟩)
 obtain ⟨r1, hr1, h⟩ := bindE h
 refine NWp.opsJ ⟨tab [(0, .ptr 0 0 0), (1, vl1 a1), (5, vi ((mget a0.at_ r1).getD 0)), (6, vb ((mget a0.at_ r1).isSome))], stab [(0, .var [.loc 1 0 a0.s.States.length, .loc 2 0 a0.s.Edges.length, .mref 3]), (1, .lst false none (List.map (eL none (D.int .u16)) a0.s.States)), (2, .lst false (some 3) (List.map eapi_Edge a0.s.Edges)), (3, .mp (eM D.str (D.int .i64) a0.at_))], 4⟩ ?_ ?_
 ·
  iterate 5 refine q1 _ ?_
  refine stepC (r := .str r1) (ArgsOk.dt ArgsOk.nil') (c_space_key hr1) ?_
  refine step (v := .d (.tup [.int .i64 ((mget a0.at_ r1).getD 0), .bool ((mget a0.at_ r1).isSome)])) (st_mgetO (ev := (D.int .i64)) (m := a0.at_) (k := r1) (key_str) 0 rfl rfl rfl rfl) ?_
  iterate 5 refine q1 _ ?_
  exact RunOps.nil' (nm [0, 1, 2, 3] ⟨.pt 0, .d _, .d _, .d _, trivial⟩ ⟨⟨show 0 < 4 by decide, _, rfl, .vars ⟨.lc 1, .lc 2, .mref 3 (show 3 < 4 by decide), trivial⟩⟩, ⟨show 1 < 4 by decide, _, rfl, .lst _ _ _⟩, ⟨show 2 < 4 by decide, _, rfl, .lst _ _ _⟩, ⟨show 3 < 4 by decide, _, rfl, .mp _⟩, trivial⟩)
 obtain ⟨q7, hv, h⟩ := bindE h
 obtain ⟨l4, m5, y6⟩ := q7
 refine NWp.seqN ⟨tab [(5, vi y6)], stab [(0, .var [.loc 4 0 l4.length, .loc 2 0 a0.s.Edges.length, .mref 3]), (2, .lst false (some 3) (List.map eapi_Edge a0.s.Edges)), (3, .mp (eM D.str (D.int .i64) m5)), (4, .lst false none (List.map (eL none (D.int .u16)) l4))], 5⟩ ?_ ?_
 ·
  replace h := hv
  refine NWp.opsJ ⟨tab [(0, .ptr 0 0 0), (1, vl1 a1), (5, vi ((mget a0.at_ r1).getD 0)), (18, vb (!((mget a0.at_ r1).isSome)))], stab [(0, .var [.loc 1 0 a0.s.States.length, .loc 2 0 a0.s.Edges.length, .mref 3]), (1, .lst false none (List.map (eL none (D.int .u16)) a0.s.States)), (2, .lst false (some 3) (List.map eapi_Edge a0.s.Edges)), (3, .mp (eM D.str (D.int .i64) a0.at_))], 4⟩ ?_ ?_
  ·
   iterate 2 refine q1 _ ?_
   exact RunOps.nil' (nm [0, 1, 2, 3] ⟨.pt 0, .d _, .d _, .d _, trivial⟩ ⟨⟨show 0 < 4 by decide, _, rfl, .vars ⟨.lc 1, .lc 2, .mref 3 (show 3 < 4 by decide), trivial⟩⟩, ⟨show 1 < 4 by decide, _, rfl, .lst _ _ _⟩, ⟨show 2 < 4 by decide, _, rfl, .lst _ _ _⟩, ⟨show 3 < 4 by decide, _, rfl, .mp _⟩, trivial⟩)
  by_cases hc2 : (!((mget a0.at_ r1).isSome)) = true
  ·
   replace h := iteT hc2 h
   refine NWp.condT (t := (!((mget a0.at_ r1).isSome))) rfl hc2 ?_
   refine NWp.opsJ ⟨tab [(0, .ptr 0 0 0), (1, vl1 a1), (5, vi (a0.s.States.length : Int))], stab [(0, .var [.loc 1 0 a0.s.States.length, .loc 2 0 a0.s.Edges.length, .mref 3]), (1, .lst false none (List.map (eL none (D.int .u16)) a0.s.States)), (2, .lst false (some 3) (List.map eapi_Edge a0.s.Edges)), (3, .mp (eM D.str (D.int .i64) a0.at_))], 4⟩ ?_ ?_
   ·
    iterate 7 refine q1 _ ?_
    exact RunOps.nil' (nm [0, 1, 2, 3] ⟨.pt 0, .d _, .d _, trivial⟩ ⟨⟨show 0 < 4 by decide, _, rfl, .vars ⟨.lc 1, .lc 2, .mref 3 (show 3 < 4 by decide), trivial⟩⟩, ⟨show 1 < 4 by decide, _, rfl, .lst _ _ _⟩, ⟨show 2 < 4 by decide, _, rfl, .lst _ _ _⟩, ⟨show 3 < 4 by decide, _, rfl, .mp _⟩, trivial⟩)
   refine NWp.opsJ ⟨tab [(0, .ptr 0 0 0), (1, vl1 a1), (5, vi (a0.s.States.length : Int))], stab [(0, .var [.loc 1 0 a0.s.States.length, .loc 2 0 a0.s.Edges.length, .mref 3]), (1, .lst false none (List.map (eL none (D.int .u16)) a0.s.States)), (2, .lst false (some 3) (List.map eapi_Edge a0.s.Edges)), (3, .mp (eM D.str (D.int .i64) (mput a0.at_ r1 (a0.s.States.length : Int))))], 4⟩ ?_ ?_
   ·
    iterate 5 refine q1 _ ?_
    refine stepC (r := .str r1) (ArgsOk.dt ArgsOk.nil') (c_space_key hr1) ?_
    refine q1 _ ?_
    refine step (v := V.undef) (σ' := (upd (stab [(0, .var [.loc 1 0 a0.s.States.length, .loc 2 0 a0.s.Edges.length, .mref 3]), (1, .lst false none (List.map (eL none (D.int .u16)) a0.s.States)), (2, .lst false (some 3) (List.map eapi_Edge a0.s.Edges)), (3, .mp (eM D.str (D.int .i64) a0.at_))]) 3 (some (.mp (eM D.str (D.int .i64) (mput a0.at_ r1 (a0.s.States.length : Int))))))) (n' := 4) (st_mset (ev := (D.int .i64)) (m := a0.at_) (k := r1) (w := (a0.s.States.length : Int)) (key_str) rfl rfl rfl rfl) ?_
    exact RunOps.nil' (nm [0, 1, 2, 3] ⟨.pt 0, .d _, .d _, trivial⟩ ⟨⟨show 0 < 4 by decide, _, rfl, .vars ⟨.lc 1, .lc 2, .mref 3 (show 3 < 4 by decide), trivial⟩⟩, ⟨show 1 < 4 by decide, _, rfl, .lst _ _ _⟩, ⟨show 2 < 4 by decide, _, rfl, .lst _ _ _⟩, ⟨show 3 < 4 by decide, _, rfl, .mp _⟩, trivial⟩)
   obtain ⟨l3, hl3, h⟩ := bindE h
   have hh := Option.some.inj h
   obtain ⟨he0, ht0⟩ := Prod.mk.inj hh
   obtain ⟨he1, ht1⟩ := Prod.mk.inj ht0
   subst he0
   subst he1
   subst ht1
   refine NWp.opsE ⟨tab [(5, vi (a0.s.States.length : Int))], stab [(0, .var [.loc 4 0 l3.length, .loc 2 0 a0.s.Edges.length, .mref 3]), (2, .lst false (some 3) (List.map eapi_Edge a0.s.Edges)), (3, .mp (eM D.str (D.int .i64) (mput a0.at_ r1 (a0.s.States.length : Int)))), (4, .lst false none (List.map (eL none (D.int .u16)) l3))], 5⟩ ?_ ?_
   ·
    iterate 8 refine q1 _ ?_
    refine step (v := .loc 4 0 l3.length) (σ' := (upd (upd (stab [(0, .var [.loc 1 0 a0.s.States.length, .loc 2 0 a0.s.Edges.length, .mref 3]), (1, .lst false none (List.map (eL none (D.int .u16)) a0.s.States)), (2, .lst false (some 3) (List.map eapi_Edge a0.s.Edges)), (3, .mp (eM D.str (D.int .i64) (mput a0.at_ r1 (a0.s.States.length : Int))))]) 1 none) 4 (some (.lst false none (List.map (eL none (D.int .u16)) l3))))) (n' := 5) (st_app (xs := a0.s.States) (ys := ([a1] : List (List Int))) (e := (eL none (D.int .u16))) hl3 rfl rfl rfl (src_v (xs := ([a1] : List (List Int))) (e := (eL none (D.int .u16))) rfl)) ?_
    iterate 3 refine q1 _ ?_
    refine step (v := V.undef) (σ' := (upd (upd (upd (stab [(0, .var [.loc 1 0 a0.s.States.length, .loc 2 0 a0.s.Edges.length, .mref 3]), (1, .lst false none (List.map (eL none (D.int .u16)) a0.s.States)), (2, .lst false (some 3) (List.map eapi_Edge a0.s.Edges)), (3, .mp (eM D.str (D.int .i64) (mput a0.at_ r1 (a0.s.States.length : Int))))]) 1 none) 4 (some (.lst false none (List.map (eL none (D.int .u16)) l3)))) 0 (some (.var [.loc 4 0 l3.length, .loc 2 0 a0.s.Edges.length, .mref 3])))) (n' := 5) rfl ?_
    exact RunOps.nil' (nm [0, 1, 2, 3, 4] ⟨.d _, trivial⟩ ⟨⟨show 0 < 5 by decide, _, rfl, .vars ⟨.lc 4, .lc 2, .mref 3 (show 3 < 5 by decide), trivial⟩⟩, ⟨show 2 < 5 by decide, _, rfl, .lst _ _ _⟩, ⟨show 3 < 5 by decide, _, rfl, .mp _⟩, ⟨show 4 < 5 by decide, _, rfl, .lst _ _ _⟩, trivial⟩)
   exact And.intro rfl rfl
  ·
   replace h := iteF hc2 h
   refine NWp.condF (t := (!((mget a0.at_ r1).isSome))) rfl hc2 ?_
   have hh := Option.some.inj h
   obtain ⟨he0, ht0⟩ := Prod.mk.inj hh
   obtain ⟨he1, ht1⟩ := Prod.mk.inj ht0
   subst he0
   subst he1
   subst ht1
   refine NWp.norm (s0 := ⟨tab [(5, vi ((mget a0.at_ r1).getD 0))], stab [(0, .var [.loc 4 0 a0.s.States.length, .loc 2 0 a0.s.Edges.length, .mref 3]), (2, .lst false (some 3) (List.map eapi_Edge a0.s.Edges)), (3, .mp (eM D.str (D.int .i64) a0.at_)), (4, .lst false none (List.map (eL none (D.int .u16)) a0.s.States))], 5⟩) (Norm.mkR [0, 1, 2, 3, 1] [0, 2, 3, 4] (by decide) rfl (by decide) (by decide) ⟨.d _, trivial⟩ ⟨⟨show 0 < 5 by decide, _, rfl, .vars ⟨.lc 4, .lc 2, .mref 3 (show 3 < 5 by decide), trivial⟩⟩, ⟨show 2 < 5 by decide, _, rfl, .lst _ _ _⟩, ⟨show 3 < 5 by decide, _, rfl, .mp _⟩, ⟨show 4 < 5 by decide, _, rfl, .lst _ _ _⟩, trivial⟩) ?_
   refine NWp.skip ?_
   exact And.intro rfl rfl
 refine NWp.opsJ ⟨tab [(4, vi y6)], stab [(0, .var [.loc 4 0 l4.length, .loc 2 0 a0.s.Edges.length, .mref 3]), (2, .lst false (some 3) (List.map eapi_Edge a0.s.Edges)), (3, .mp (eM D.str (D.int .i64) m5)), (4, .lst false none (List.map (eL none (D.int .u16)) l4))], 5⟩ ?_ ?_
 ·
  iterate 2 refine q1 _ ?_
  exact RunOps.nil' (nm [0, 1, 2, 3, 4] ⟨.d _, trivial⟩ ⟨⟨show 0 < 5 by decide, _, rfl, .vars ⟨.lc 4, .lc 2, .mref 3 (show 3 < 5 by decide), trivial⟩⟩, ⟨show 2 < 5 by decide, _, rfl, .lst _ _ _⟩, ⟨show 3 < 5 by decide, _, rfl, .mp _⟩, ⟨show 4 < 5 by decide, _, rfl, .lst _ _ _⟩, trivial⟩)
 have hh := Option.some.inj h
 subst hh
 refine NWp.ret ?_
 exact ⟨.inr rfl, _, rfl, rfl, AllS.sub ⟨rfl, rfl, rfl, rfl, trivial⟩, rfl⟩

theorem c_space_After {a0 : api_Rule} {a1 : (List Int)} {r : (List Int)} (h : space_After a0 a1 = some r) : PCall Try.prog 31 [eapi_Rule a0, eL none (D.int .u16) a1] (eL none (D.int .u16) r) := by
 refine PCall.introN ok31 (show 2 ≤ 35 by decide) ?_
 refine NWp.norm (s0 := ⟨tab [(0, vs4 a0), (1, vl1 a1)], stab [], 0⟩) (nr []) ?_
 refine NWp.opsJ ⟨tab [(1, vl1 a1), (2, vp3 a0)], stab [], 0⟩ ?_ ?_
 ·
  iterate 2 refine q1 _ ?_
  exact nR []
 obtain ⟨r1, hr1, h⟩ := bindE h
 refine NWp.opsJ ⟨tab [(2, vp3 a0), (5, .loc 0 0 r1.length)], stab [(0, .lst true none (List.map (D.int .u16) r1))], 1⟩ ?_ ?_
 ·
  refine q1 _ ?_
  refine stepW (v := .loc 0 0 r1.length) (σ' := (upd (stab []) 0 (some (.lst true none (List.map (D.int .u16) r1))))) (n' := 1) (SCall.lift [] (c_slices_Clone_uint16 hr1) (show 0 ≤ 1 by decide) (by decide) (show ∀ i ∈ [], i < 0 by decide) (dom_c (show 0 < 1 by decide) dom_n) (VNs.c (.d _) VNs.nil0) SN.nil0) (show 0 ≤ 1 by decide) ?_
  refine q1 _ ?_
  exact nR [0]
 refine NWp.seq ?_
 refine NWp.opsJ ⟨tab [(5, .loc 0 0 r1.length), (11, vl2 a0.Then), (12, vi (a0.Then.length : Int)), (13, vi 0)], stab [(0, .lst true none (List.map (D.int .u16) r1))], 1⟩ ?_ ?_
 ·
  iterate 2 refine q1 _ ?_
  refine step (v := vi (a0.Then.length : Int)) (st_len (xs := a0.Then) (e := eapi_Pair) rfl) ?_
  refine q1 _ ?_
  exact nR [0]
 obtain ⟨z16, hl, h⟩ := bindE h
 refine NWp.block ?_
 refine loop_forO (cntU (a0.Then.length : Int)) (fun (i3 : Int) (qq : (List Int)) => ⟨tab [(5, .loc 0 0 qq.length), (11, vl2 a0.Then), (12, vi (a0.Then.length : Int)), (13, vi i3)], stab [(0, .lst true none (List.map (D.int .u16) qq))], 1⟩) 0 (fun (qq : (List Int)) => ⟨tab [(5, .loc 0 0 qq.length)], stab [(0, .lst true none (List.map (D.int .u16) qq))], 1⟩) Low low_step hl (by unfold Low; omega) ?_ ?_ ?_
 ·
  rintro i3 l2 xr8 hinv6 hgo5 h
  show NWp _ _ _ _ _ ⟨tab [(5, .loc 0 0 l2.length), (11, vl2 a0.Then), (12, vi (a0.Then.length : Int)), (13, vi i3)], stab [(0, .lst true none (List.map (D.int .u16) l2))], 1⟩
  have hc7 : decide (i3 < (a0.Then.length : Int)) = true := decide_eq_true hgo5
  refine NWp.opsJ ⟨tab [(5, .loc 0 0 l2.length), (11, vl2 a0.Then), (12, vi (a0.Then.length : Int)), (13, vi i3), (14, vb (decide (i3 < (a0.Then.length : Int))))], stab [(0, .lst true none (List.map (D.int .u16) l2))], 1⟩ ?_ ?_
  ·
   refine q1 _ ?_
   exact nR [0]
  refine NWp.rng 12 rfl fun hB4 => ?_
  refine NWp.seq ?_
  refine NWp.condT (t := decide (i3 < (a0.Then.length : Int))) rfl hc7 ?_
  refine NWp.skip ?_
  obtain ⟨l14, hv, h⟩ := bindE h
  refine NWp.seqN ⟨tab [(5, .loc 0 0 l14.length), (11, vl2 a0.Then), (12, vi (a0.Then.length : Int)), (13, vi i3)], stab [(0, .lst true none (List.map (D.int .u16) l14))], 1⟩ ?_ ?_
  ·
   replace h := hv
   refine NWp.block ?_
   obtain ⟨x9, hx9, h⟩ := bindE h
   refine NWp.opsJ ⟨tab [(5, .loc 0 0 l2.length), (7, .ptr 1 0 0), (11, vl2 a0.Then), (12, vi (a0.Then.length : Int)), (13, vi i3)], stab [(0, .lst true none (List.map (D.int .u16) l2)), (1, .var [vi x9.F, vh x9.N])], 2⟩ ?_ ?_
   ·
    refine step (v := vp4 x9) (st_iaddr (xs := a0.Then) (e := eapi_Pair) hx9 rfl rfl) ?_
    refine q1 _ ?_
    refine step (v := .ptr 1 0 0) (σ' := (upd (stab [(0, .lst true none (List.map (D.int .u16) l2))]) 1 (some (.var [vi 0, vh 0])))) (n' := 2) rfl ?_
    refine step (v := V.undef) (σ' := (upd (upd (stab [(0, .lst true none (List.map (D.int .u16) l2))]) 1 (some (.var [vi 0, vh 0]))) 1 (some (.var [vi x9.F, vh x9.N])))) (n' := 2) rfl ?_
    exact nR [0, 1]
   refine NWp.opsJ ⟨tab [(5, .loc 0 0 l2.length), (7, .ptr 1 0 0), (11, vl2 a0.Then), (12, vi (a0.Then.length : Int)), (13, vi i3), (26, vb ((decide (x9.F ≥ 0)) && (decide (x9.F < (l2.length : Int)))))], stab [(0, .lst true none (List.map (D.int .u16) l2)), (1, .var [vi x9.F, vh x9.N])], 2⟩ ?_ ?_
   ·
    iterate 4 refine q1 _ ?_
    by_cases hg10 : decide (x9.F ≥ 0) = true
    ·
     refine qG _ hg10 ?_
     refine q1 _ ?_
     refine qG _ hg10 ?_
     refine q1 _ ?_
     refine qG _ hg10 ?_
     refine q1 _ ?_
     refine qG _ hg10 ?_
     refine q1 _ ?_
     refine qG _ hg10 ?_
     refine q1 _ ?_
     refine step (v := vb (decide (x9.F < (l2.length : Int)))) (st_pickT (b := decide (x9.F ≥ 0)) rfl hg10 rfl) ?_
     exact RunOps.nil' (nm [0, 1] ⟨.lc 0, .pt 1, .d _, .d _, .d _, .eq (by first | (simp [hg10]; done) | (simp_all; done) | grind), trivial⟩ ⟨⟨show 0 < 2 by decide, _, rfl, .lst _ _ _⟩, ⟨show 1 < 2 by decide, _, rfl, .vars ⟨.d _, .d _, trivial⟩⟩, trivial⟩)
    ·
     iterate 5 refine qX _ hg10 ?_
     refine step (v := vb false) (st_pickF (b := decide (x9.F ≥ 0)) rfl hg10 rfl) ?_
     exact RunOps.nil' (nm [0, 1] ⟨.lc 0, .pt 1, .d _, .d _, .d _, .eq (by first | (simp [hg10]; done) | (simp_all; done) | grind), trivial⟩ ⟨⟨show 0 < 2 by decide, _, rfl, .lst _ _ _⟩, ⟨show 1 < 2 by decide, _, rfl, .vars ⟨.d _, .d _, trivial⟩⟩, trivial⟩)
   by_cases hc11 : ((decide (x9.F ≥ 0)) && (decide (x9.F < (l2.length : Int)))) = true
   ·
    replace h := iteT hc11 h
    refine NWp.condT (t := ((decide (x9.F ≥ 0)) && (decide (x9.F < (l2.length : Int))))) rfl hc11 ?_
    obtain ⟨x12, hx12, h⟩ := bindE h
    obtain ⟨l13, hl13, h⟩ := bindE h
    have hh := Option.some.inj h
    subst hh
    refine NWp.opsE ⟨tab [(5, .loc 0 0 l13.length), (11, vl2 a0.Then), (12, vi (a0.Then.length : Int)), (13, vi i3)], stab [(0, .lst true none (List.map (D.int .u16) l13))], 1⟩ ?_ ?_
    ·
     iterate 5 refine q1 _ ?_
     refine step (v := .ptr 0 x9.F.toNat 0) (st_iaddrL (xs := l2) (e := (D.int .u16)) hx12 rfl rfl rfl rfl) ?_
     refine step (v := V.undef) (σ' := (upd (stab [(0, .lst true none (List.map (D.int .u16) l2)), (1, .var [vi x9.F, vh x9.N])]) 0 (some (.lst true none (List.map (D.int .u16) l13))))) (n' := 2) (st_storeL' (e := (D.int .u16)) (v' := x9.N) hl13 rfl rfl rfl rfl rfl) ?_
     exact RunOps.nil' (nm [0] ⟨.le (id := 0) (gput_len hl13).symm (show 0 < 1 by decide), .d _, .d _, .d _, trivial⟩ ⟨⟨show 0 < 1 by decide, _, rfl, .lst _ _ _⟩, trivial⟩)
    exact And.intro rfl rfl
   ·
    replace h := iteF hc11 h
    refine NWp.condF (t := ((decide (x9.F ≥ 0)) && (decide (x9.F < (l2.length : Int))))) rfl hc11 ?_
    have hh := Option.some.inj h
    subst hh
    refine NWp.norm (s0 := ⟨tab [(5, .loc 0 0 l2.length), (11, vl2 a0.Then), (12, vi (a0.Then.length : Int)), (13, vi i3)], stab [(0, .lst true none (List.map (D.int .u16) l2))], 1⟩) (nr [0]) ?_
    refine NWp.skip ?_
    exact And.intro rfl rfl
  have hh := Option.some.inj h
  subst hh
  refine NWp.opsE ⟨tab [(5, .loc 0 0 l14.length), (11, vl2 a0.Then), (12, vi (a0.Then.length : Int)), (13, vi (i3 + 1))], stab [(0, .lst true none (List.map (D.int .u16) l14))], 1⟩ ?_ ?_
  ·
   refine step (v := vi (i3 + 1)) (st_inc (inc_ok hinv6 hgo5 hB4) rfl rfl) ?_
   refine q1 _ ?_
   exact nR [0]
  exact And.intro rfl rfl
 ·
  rintro i3 l2 hinv6 hgo5
  show NWp _ _ _ _ _ ⟨tab [(5, .loc 0 0 l2.length), (11, vl2 a0.Then), (12, vi (a0.Then.length : Int)), (13, vi i3)], stab [(0, .lst true none (List.map (D.int .u16) l2))], 1⟩
  have hc7 : ¬ (decide (i3 < (a0.Then.length : Int)) = true) := fun hq => hgo5 (of_decide_eq_true hq)
  refine NWp.opsJ ⟨tab [(5, .loc 0 0 l2.length), (11, vl2 a0.Then), (12, vi (a0.Then.length : Int)), (13, vi i3), (14, vb (decide (i3 < (a0.Then.length : Int))))], stab [(0, .lst true none (List.map (D.int .u16) l2))], 1⟩ ?_ ?_
  ·
   refine q1 _ ?_
   exact nR [0]
  refine NWp.seq ?_
  refine NWp.condF (t := decide (i3 < (a0.Then.length : Int))) rfl hc7 ?_
  refine NWp.norm (s0 := ⟨tab [(5, .loc 0 0 l2.length)], stab [(0, .lst true none (List.map (D.int .u16) l2))], 1⟩) (nr [0]) ?_
  refine NWp.exit ?_
  exact And.intro rfl rfl
 refine NWp.opsJ ⟨tab [(4, .loc 0 0 z16.length)], stab [(0, .lst true none (List.map (D.int .u16) z16))], 1⟩ ?_ ?_
 ·
  iterate 2 refine q1 _ ?_
  exact nR [0]
 have hh := Option.some.inj h
 subst hh
 refine NWp.ret ?_
 show FQ _ _ _ _
 exact FQ.mk1 (.inr rfl) (res_t (v := .loc 0 0 z16.length) rfl rfl) (RV.loc (xs := z16) (e := (D.int .u16)) rfl rfl trivial)

theorem c_space_Goes_1 {a0 : api_Pair} {a1 : (List Int)} {r : Bool} (h : space_Goes_1 a0 a1 = some r) : PCall Try.prog 73 [eapi_Pair a0, .cptr none (eL none (D.int .u16) a1) 0] (.bool r) := by
 refine PCall.introN ok73 (show 2 ≤ 24 by decide) ?_
 refine NWp.norm (s0 := ⟨tab [(0, vs5 a0), (1, .d (.cptr none (eL none (D.int .u16) a1) 0))], stab [], 0⟩) (nr []) ?_
 refine NWp.opsJ ⟨tab [(1, .d (.cptr none (eL none (D.int .u16) a1) 0)), (2, vp4 a0)], stab [], 0⟩ ?_ ?_
 ·
  iterate 2 refine q1 _ ?_
  exact nR []
 obtain ⟨y4, hv, h⟩ := bindE h
 refine NWp.opsJ ⟨tab [(3, vb y4)], stab [], 0⟩ ?_ ?_
 ·
  iterate 4 refine q1 _ ?_
  by_cases hg1 : decide (a0.F < 0) = true
  ·
   replace hv := iteT hg1 hv
   iterate 5 refine qX (decide (a0.F < 0)) (by rw [hg1]; decide) ?_
   refine step (v := vb true) (st_pickT (b := decide (a0.F < 0)) rfl hg1 rfl) ?_
   refine q1 _ ?_
   iterate 8 refine qX true (by decide) ?_
   refine step (v := vb true) (st_pickT (b := true) rfl rfl rfl) ?_
   refine q1 _ ?_
   have hh := Option.some.inj hv
   subst hh
   exact nR []
  ·
   replace hv := iteF hg1 hv
   refine qG (decide (a0.F < 0)) (Bool.eq_false_iff.2 hg1) ?_
   refine q1 _ ?_
   refine qG (decide (a0.F < 0)) (Bool.eq_false_iff.2 hg1) ?_
   refine q1 _ ?_
   refine qG (decide (a0.F < 0)) (Bool.eq_false_iff.2 hg1) ?_
   refine q1 _ ?_
   refine qG (decide (a0.F < 0)) (Bool.eq_false_iff.2 hg1) ?_
   refine step (v := vi (a1.length : Int)) (st_len (xs := a1) (e := (D.int .u16)) rfl) ?_
   refine qG (decide (a0.F < 0)) (Bool.eq_false_iff.2 hg1) ?_
   refine q1 _ ?_
   refine step (v := vb (decide (a0.F ≥ (a1.length : Int)))) (st_pickF (b := decide (a0.F < 0)) rfl hg1 rfl) ?_
   refine q1 _ ?_
   by_cases hg2 : decide (a0.F ≥ (a1.length : Int)) = true
   ·
    replace hv := iteT hg2 hv
    iterate 8 refine qX (decide (a0.F ≥ (a1.length : Int))) (by rw [hg2]; decide) ?_
    refine step (v := vb true) (st_pickT (b := decide (a0.F ≥ (a1.length : Int))) rfl hg2 rfl) ?_
    refine q1 _ ?_
    have hh := Option.some.inj hv
    subst hh
    exact nR []
   ·
    replace hv := iteF hg2 hv
    obtain ⟨x3, hx3, hv⟩ := bindE hv
    refine qG (decide (a0.F ≥ (a1.length : Int))) (Bool.eq_false_iff.2 hg2) ?_
    refine q1 _ ?_
    refine qG (decide (a0.F ≥ (a1.length : Int))) (Bool.eq_false_iff.2 hg2) ?_
    refine q1 _ ?_
    refine qG (decide (a0.F ≥ (a1.length : Int))) (Bool.eq_false_iff.2 hg2) ?_
    refine q1 _ ?_
    refine qG (decide (a0.F ≥ (a1.length : Int))) (Bool.eq_false_iff.2 hg2) ?_
    refine step (v := .d (.cptr none (.int .u16 x3) 0)) (st_iaddr (xs := a1) (e := (D.int .u16)) hx3 rfl rfl) ?_
    refine qG (decide (a0.F ≥ (a1.length : Int))) (Bool.eq_false_iff.2 hg2) ?_
    refine q1 _ ?_
    refine qG (decide (a0.F ≥ (a1.length : Int))) (Bool.eq_false_iff.2 hg2) ?_
    refine q1 _ ?_
    refine qG (decide (a0.F ≥ (a1.length : Int))) (Bool.eq_false_iff.2 hg2) ?_
    refine q1 _ ?_
    refine qG (decide (a0.F ≥ (a1.length : Int))) (Bool.eq_false_iff.2 hg2) ?_
    refine q1 _ ?_
    refine step (v := vb (x3 != a0.N)) (st_pickF (b := decide (a0.F ≥ (a1.length : Int))) rfl hg2 rfl) ?_
    refine q1 _ ?_
    have hh := Option.some.inj hv
    subst hh
    exact nR []
 have hh := Option.some.inj h
 subst hh
 refine NWp.ret ?_
 show FQ _ _ _ _
 exact FQ.mk1 (.inr rfl) (res_t (v := vb y4) rfl rfl) (RV.d trivial)

theorem c_slices_IndexFunc_api_Pair {a0 : (List api_Pair)} {a1 : api_Pair → Option Bool} {g_a1 : D} (hf_a1 : Fn1 Try.prog g_a1 eapi_Pair D.bool a1) {r : Int} (h : slices_IndexFunc_api_Pair a0 a1 = some r) : PCall Try.prog 89 [eL (some 2) eapi_Pair a0, g_a1] (.int .i64 r) := by
 obtain ⟨fn_a1, cap_a1, rfl, hc_a1⟩ := hf_a1
 refine PCall.introN ok89 (show 2 ≤ 19 by decide) ?_
 refine NWp.norm (s0 := ⟨tab [(0, vl2 a0), (1, .d (.func fn_a1 cap_a1))], stab [], 0⟩) (nr []) ?_
 refine NWp.opsJ ⟨tab [(0, vl2 a0), (1, .d (.func fn_a1 cap_a1))], stab [], 0⟩ ?_ ?_
 ·
  refine q1 _ ?_
  exact nR []
 refine NWp.seq ?_
 refine NWp.opsJ ⟨tab [(0, vl2 a0), (1, .d (.func fn_a1 cap_a1)), (7, vi (a0.length : Int)), (8, vi 0)], stab [], 0⟩ ?_ ?_
 ·
  refine q1 _ ?_
  refine step (v := vi (a0.length : Int)) (st_len (xs := a0) (e := eapi_Pair) rfl) ?_
  refine q1 _ ?_
  exact nR []
 obtain ⟨q10, hl, h⟩ := bindE h
 refine NWp.block ?_
 refine loop_forR (cntU (a0.length : Int)) (fun (i1 : Int) (qq : Unit) => ⟨tab [(0, vl2 a0), (1, .d (.func fn_a1 cap_a1)), (7, vi (a0.length : Int)), (8, vi i1)], stab [], 0⟩) 0 (fun (qq : Unit) => ⟨tab [], stab [], 0⟩) Low low_step (r := r) hl (by unfold Low; omega) ?_ ?_ ?_ ?_
 ·
  rintro i1 ⟨⟩ xr6 hinv4 hgo3 h
  show NWp _ _ _ _ _ ⟨tab [(0, vl2 a0), (1, .d (.func fn_a1 cap_a1)), (7, vi (a0.length : Int)), (8, vi i1)], stab [], 0⟩
  have hc5 : decide (i1 < (a0.length : Int)) = true := decide_eq_true hgo3
  refine NWp.opsJ ⟨tab [(0, vl2 a0), (1, .d (.func fn_a1 cap_a1)), (7, vi (a0.length : Int)), (8, vi i1), (9, vb (decide (i1 < (a0.length : Int))))], stab [], 0⟩ ?_ ?_
  ·
   refine q1 _ ?_
   exact nR []
  refine NWp.rng 7 rfl fun hB2 => ?_
  refine NWp.seq ?_
  refine NWp.condT (t := decide (i1 < (a0.length : Int))) rfl hc5 ?_
  refine NWp.skip ?_
  refine NWp.seq ?_
  refine NWp.block ?_
  refine NWp.opsJ ⟨tab [(0, vl2 a0), (1, .d (.func fn_a1 cap_a1)), (5, vi i1), (7, vi (a0.length : Int)), (8, vi i1)], stab [], 0⟩ ?_ ?_
  ·
   iterate 2 refine q1 _ ?_
   exact nR []
  obtain ⟨x7, hx7, h⟩ := bindE h
  obtain ⟨x8, hx8, h⟩ := bindE h
  refine NWp.opsJ ⟨tab [(0, vl2 a0), (1, .d (.func fn_a1 cap_a1)), (5, vi i1), (7, vi (a0.length : Int)), (8, vi i1), (16, vb x8)], stab [], 0⟩ ?_ ?_
  ·
   iterate 3 refine q1 _ ?_
   refine step (v := vp4 x7) (st_iaddr (xs := a0) (e := eapi_Pair) hx7 rfl rfl) ?_
   refine q1 _ ?_
   refine stepV' (r := .bool x8) rfl (ArgsOk.dt ArgsOk.nil') (hc_a1 _ _ hx8) ?_
   exact nR []
  by_cases hc9 : x8 = true
  ·
   replace h := iteT hc9 h
   refine NWp.condT (t := x8) rfl hc9 ?_
   refine NWp.opsJ ⟨tab [(4, vi i1)], stab [], 0⟩ ?_ ?_
   ·
    iterate 2 refine q1 _ ?_
    exact nR []
   obtain ⟨r10, kr10, hr⟩ := mapE (o := some i1) (g := Br.ret) h
   subst hr
   have h := kr10
   have hh := Option.some.inj h
   subst hh
   refine NWp.ret ?_
   refine And.intro (fun hn => nomatch hn) ?_
   intro hq
   have hq := hq.symm
   subst hq
   show FQ _ _ _ _
   exact FQ.mk1 (.inr rfl) (res_t (v := vi i1) rfl rfl) (RV.d trivial)
  ·
   replace h := iteF hc9 h
   refine NWp.condF (t := x8) rfl hc9 ?_
   refine NWp.skip ?_
   have hh := Option.some.inj h
   subst hh
   refine NWp.opsE ⟨tab [(0, vl2 a0), (1, .d (.func fn_a1 cap_a1)), (7, vi (a0.length : Int)), (8, vi (i1 + 1))], stab [], 0⟩ ?_ ?_
   ·
    refine step (v := vi (i1 + 1)) (st_inc (inc_ok hinv4 hgo3 hB2) rfl rfl) ?_
    refine q1 _ ?_
    exact nR []
   exact And.intro rfl rfl
 ·
  rintro i1 ⟨⟩ hinv4 hgo3
  show NWp _ _ _ _ _ ⟨tab [(0, vl2 a0), (1, .d (.func fn_a1 cap_a1)), (7, vi (a0.length : Int)), (8, vi i1)], stab [], 0⟩
  have hc5 : ¬ (decide (i1 < (a0.length : Int)) = true) := fun hq => hgo3 (of_decide_eq_true hq)
  refine NWp.opsJ ⟨tab [(0, vl2 a0), (1, .d (.func fn_a1 cap_a1)), (7, vi (a0.length : Int)), (8, vi i1), (9, vb (decide (i1 < (a0.length : Int))))], stab [], 0⟩ ?_ ?_
  ·
   refine q1 _ ?_
   exact nR []
  refine NWp.seq ?_
  refine NWp.condF (t := decide (i1 < (a0.length : Int))) rfl hc5 ?_
  refine NWp.norm (s0 := ⟨tab [], stab [], 0⟩) (nr []) ?_
  refine NWp.exit ?_
  exact And.intro rfl rfl
 ·
  intro r' hq
  subst hq
  exact Option.some.inj h
 rintro ⟨⟩ rfl
 refine NWp.opsJ ⟨tab [(4, vi (-1))], stab [], 0⟩ ?_ ?_
 ·
  refine q1 _ ?_
  exact nR []
 have hh := Option.some.inj h
 subst hh
 refine NWp.ret ?_
 show FQ _ _ _ _
 exact FQ.mk1 (.inr rfl) (res_t (v := vi (-1)) rfl rfl) (RV.d trivial)

theorem c_slices_ContainsFunc_api_Pair {a0 : (List api_Pair)} {a1 : api_Pair → Option Bool} {g_a1 : D} (hf_a1 : Fn1 Try.prog g_a1 eapi_Pair D.bool a1) {r : Bool} (h : slices_ContainsFunc_api_Pair a0 a1 = some r) : PCall Try.prog 72 [eL (some 2) eapi_Pair a0, g_a1] (.bool r) := by
 obtain ⟨fn_a1, cap_a1, rfl, hc_a1⟩ := hf_a1
 refine PCall.introN ok72 (show 2 ≤ 9 by decide) ?_
 refine NWp.norm (s0 := ⟨tab [(0, vl2 a0), (1, .d (.func fn_a1 cap_a1))], stab [], 0⟩) (nr []) ?_
 refine NWp.opsJ ⟨tab [(0, vl2 a0), (1, .d (.func fn_a1 cap_a1))], stab [], 0⟩ ?_ ?_
 ·
  refine q1 _ ?_
  exact nR []
 obtain ⟨r1, hr1, h⟩ := bindE h
 refine NWp.opsJ ⟨tab [(4, vb (decide (r1 ≥ 0)))], stab [], 0⟩ ?_ ?_
 ·
  iterate 2 refine q1 _ ?_
  refine stepC (r := .int .i64 r1) (ArgsOk.dt (ArgsOk.dt ArgsOk.nil')) (c_slices_IndexFunc_api_Pair ⟨_, _, rfl, hc_a1⟩ hr1) ?_
  iterate 2 refine q1 _ ?_
  exact nR []
 have hh := Option.some.inj h
 subst hh
 refine NWp.ret ?_
 show FQ _ _ _ _
 exact FQ.mk1 (.inr rfl) (res_t (v := vb (decide (r1 ≥ 0))) rfl rfl) (RV.d trivial)

theorem c_space_Goes {a0 : api_Rule} {a1 : (List Int)} {r : Bool} (h : space_Goes a0 a1 = some r) : PCall Try.prog 28 [eapi_Rule a0, eL none (D.int .u16) a1] (.bool r) := by
 refine PCall.introN ok28 (show 2 ≤ 10 by decide) ?_
 refine NWp.norm (s0 := ⟨tab [(0, vs4 a0), (1, vl1 a1)], stab [], 0⟩) (nr []) ?_
 refine NWp.opsJ ⟨tab [(2, vp3 a0), (3, .d (.cptr none (eL none (D.int .u16) a1) 0))], stab [], 0⟩ ?_ ?_
 ·
  iterate 3 refine q1 _ ?_
  exact nR []
 obtain ⟨r1, hr1, h⟩ := bindE h
 refine NWp.opsJ ⟨tab [(4, vb (!r1))], stab [], 0⟩ ?_ ?_
 ·
  iterate 3 refine q1 _ ?_
  refine stepC (r := .bool r1) (ArgsOk.dt (ArgsOk.dt ArgsOk.nil')) (c_slices_ContainsFunc_api_Pair ⟨73, [.cptr none (eL none (D.int .u16) a1) 0], rfl, fun _ _ h => c_space_Goes_1 h⟩ hr1) ?_
  iterate 2 refine q1 _ ?_
  exact nR []
 have hh := Option.some.inj h
 subst hh
 refine NWp.ret ?_
 show FQ _ _ _ _
 exact FQ.mk1 (.inr rfl) (res_t (v := vb (!r1)) rfl rfl) (RV.d trivial)

theorem c_slices_Equal_uint16 {a0 : (List Int)} {a1 : (List Int)} {r : Bool} (h : slices_Equal_uint16 a0 a1 = some r) : PCall Try.prog 68 [eL none (D.int .u16) a0, eL none (D.int .u16) a1] (.bool r) := by
 refine PCall.introN ok68 (show 2 ≤ 26 by decide) ?_
 refine NWp.norm (s0 := ⟨tab [(0, vl1 a0), (1, vl1 a1)], stab [], 0⟩) (nr []) ?_
 refine NWp.opsJ ⟨tab [(0, vl1 a0), (1, vl1 a1)], stab [], 0⟩ ?_ ?_
 ·
  refine q1 _ ?_
  exact nR []
 refine NWp.seq ?_
 refine NWp.opsJ ⟨tab [(0, vl1 a0), (1, vl1 a1), (10, vb ((a0.length : Int) != (a1.length : Int)))], stab [], 0⟩ ?_ ?_
 ·
  refine q1 _ ?_
  refine step (v := vi (a0.length : Int)) (st_len (xs := a0) (e := (D.int .u16)) rfl) ?_
  refine q1 _ ?_
  refine step (v := vi (a1.length : Int)) (st_len (xs := a1) (e := (D.int .u16)) rfl) ?_
  refine q1 _ ?_
  exact nR []
 by_cases hc1 : ((a0.length : Int) != (a1.length : Int)) = true
 ·
  replace h := iteT hc1 h
  refine NWp.condT (t := ((a0.length : Int) != (a1.length : Int))) rfl hc1 ?_
  refine NWp.opsJ ⟨tab [(4, vb false)], stab [], 0⟩ ?_ ?_
  ·
   refine q1 _ ?_
   exact nR []
  have hh := Option.some.inj h
  subst hh
  refine NWp.ret ?_
  show FQ _ _ _ _
  exact FQ.mk1 (.inr rfl) (res_t (v := vb false) rfl rfl) (RV.d trivial)
 ·
  replace h := iteF hc1 h
  refine NWp.condF (t := ((a0.length : Int) != (a1.length : Int))) rfl hc1 ?_
  refine NWp.skip ?_
  refine NWp.seq ?_
  refine NWp.opsJ ⟨tab [(0, vl1 a0), (1, vl1 a1), (12, vi (a0.length : Int)), (13, vi 0)], stab [], 0⟩ ?_ ?_
  ·
   refine q1 _ ?_
   refine step (v := vi (a0.length : Int)) (st_len (xs := a0) (e := (D.int .u16)) rfl) ?_
   refine q1 _ ?_
   exact nR []
  obtain ⟨q11, hl, h⟩ := bindE h
  refine NWp.block ?_
  refine loop_forR (cntU (a0.length : Int)) (fun (i2 : Int) (qq : Unit) => ⟨tab [(0, vl1 a0), (1, vl1 a1), (12, vi (a0.length : Int)), (13, vi i2)], stab [], 0⟩) 0 (fun (qq : Unit) => ⟨tab [], stab [], 0⟩) Low low_step (r := r) hl (by unfold Low; omega) ?_ ?_ ?_ ?_
  ·
   rintro i2 ⟨⟩ xr7 hinv5 hgo4 h
   show NWp _ _ _ _ _ ⟨tab [(0, vl1 a0), (1, vl1 a1), (12, vi (a0.length : Int)), (13, vi i2)], stab [], 0⟩
   have hc6 : decide (i2 < (a0.length : Int)) = true := decide_eq_true hgo4
   refine NWp.opsJ ⟨tab [(0, vl1 a0), (1, vl1 a1), (12, vi (a0.length : Int)), (13, vi i2), (14, vb (decide (i2 < (a0.length : Int))))], stab [], 0⟩ ?_ ?_
   ·
    refine q1 _ ?_
    exact nR []
   refine NWp.rng 12 rfl fun hB3 => ?_
   refine NWp.seq ?_
   refine NWp.condT (t := decide (i2 < (a0.length : Int))) rfl hc6 ?_
   refine NWp.skip ?_
   refine NWp.seq ?_
   refine NWp.block ?_
   refine NWp.opsJ ⟨tab [(0, vl1 a0), (1, vl1 a1), (5, vi i2), (12, vi (a0.length : Int)), (13, vi i2)], stab [], 0⟩ ?_ ?_
   ·
    iterate 2 refine q1 _ ?_
    exact nR []
   obtain ⟨x8, hx8, h⟩ := bindE h
   obtain ⟨x9, hx9, h⟩ := bindE h
   refine NWp.opsJ ⟨tab [(0, vl1 a0), (1, vl1 a1), (12, vi (a0.length : Int)), (13, vi i2), (24, vb (x8 != x9))], stab [], 0⟩ ?_ ?_
   ·
    iterate 2 refine q1 _ ?_
    refine step (v := .d (.cptr none (.int .u16 x8) 0)) (st_iaddr (xs := a0) (e := (D.int .u16)) hx8 rfl rfl) ?_
    iterate 3 refine q1 _ ?_
    refine step (v := .d (.cptr none (.int .u16 x9) 0)) (st_iaddr (xs := a1) (e := (D.int .u16)) hx9 rfl rfl) ?_
    iterate 2 refine q1 _ ?_
    exact nR []
   by_cases hc10 : (x8 != x9) = true
   ·
    replace h := iteT hc10 h
    refine NWp.condT (t := (x8 != x9)) rfl hc10 ?_
    refine NWp.opsJ ⟨tab [(4, vb false)], stab [], 0⟩ ?_ ?_
    ·
     refine q1 _ ?_
     exact nR []
    obtain ⟨r11, kr11, hr⟩ := mapE (o := some false) (g := Br.ret) h
    subst hr
    have h := kr11
    have hh := Option.some.inj h
    subst hh
    refine NWp.ret ?_
    refine And.intro (fun hn => nomatch hn) ?_
    intro hq
    have hq := hq.symm
    subst hq
    show FQ _ _ _ _
    exact FQ.mk1 (.inr rfl) (res_t (v := vb false) rfl rfl) (RV.d trivial)
   ·
    replace h := iteF hc10 h
    refine NWp.condF (t := (x8 != x9)) rfl hc10 ?_
    refine NWp.skip ?_
    have hh := Option.some.inj h
    subst hh
    refine NWp.opsE ⟨tab [(0, vl1 a0), (1, vl1 a1), (12, vi (a0.length : Int)), (13, vi (i2 + 1))], stab [], 0⟩ ?_ ?_
    ·
     refine step (v := vi (i2 + 1)) (st_inc (inc_ok hinv5 hgo4 hB3) rfl rfl) ?_
     refine q1 _ ?_
     exact nR []
    exact And.intro rfl rfl
  ·
   rintro i2 ⟨⟩ hinv5 hgo4
   show NWp _ _ _ _ _ ⟨tab [(0, vl1 a0), (1, vl1 a1), (12, vi (a0.length : Int)), (13, vi i2)], stab [], 0⟩
   have hc6 : ¬ (decide (i2 < (a0.length : Int)) = true) := fun hq => hgo4 (of_decide_eq_true hq)
   refine NWp.opsJ ⟨tab [(0, vl1 a0), (1, vl1 a1), (12, vi (a0.length : Int)), (13, vi i2), (14, vb (decide (i2 < (a0.length : Int))))], stab [], 0⟩ ?_ ?_
   ·
    refine q1 _ ?_
    exact nR []
   refine NWp.seq ?_
   refine NWp.condF (t := decide (i2 < (a0.length : Int))) rfl hc6 ?_
   refine NWp.norm (s0 := ⟨tab [], stab [], 0⟩) (nr []) ?_
   refine NWp.exit ?_
   exact And.intro rfl rfl
  ·
   intro r' hq
   subst hq
   exact Option.some.inj h
  rintro ⟨⟩ rfl
  refine NWp.opsJ ⟨tab [(4, vb true)], stab [], 0⟩ ?_ ?_
  ·
   refine q1 _ ?_
   exact nR []
  have hh := Option.some.inj h
  subst hh
  refine NWp.ret ?_
  show FQ _ _ _ _
  exact FQ.mk1 (.inr rfl) (res_t (v := vb true) rfl rfl) (RV.d trivial)

theorem c_space_From {a0 : api_Space} {a1 : Int} {r : (List api_Edge)} (h : space_From a0 a1 = some r) : PCall Try.prog 34 [eapi_Space a0, .int .i64 a1] (eL (some 3) eapi_Edge r) := by
 refine PCall.introN ok34 (show 2 ≤ 25 by decide) ?_
 refine NWp.norm (s0 := ⟨tab [(0, vs1 a0), (1, vi a1)], stab [], 0⟩) (nr []) ?_
 refine NWp.opsJ ⟨tab [(1, vi a1), (2, vp0 a0)], stab [], 0⟩ ?_ ?_
 ·
  iterate 2 refine q1 _ ?_
  exact nR []
 refine NWp.opsJ ⟨tab [(1, vi a1), (2, vp0 a0), (5, .d (.nils))], stab [], 0⟩ ?_ ?_
 ·
  refine q1 _ ?_
  exact nR []
 refine NWp.seq ?_
 refine NWp.opsJ ⟨tab [(1, vi a1), (5, .d (.nils)), (9, vl0 a0.Edges), (10, vi (a0.Edges.length : Int)), (11, vi 0)], stab [], 0⟩ ?_ ?_
 ·
  iterate 2 refine q1 _ ?_
  refine step (v := vi (a0.Edges.length : Int)) (st_len (xs := a0.Edges) (e := eapi_Edge) rfl) ?_
  refine q1 _ ?_
  exact nR []
 obtain ⟨z13, hl, h⟩ := bindE h
 refine NWp.norm (s0 := ⟨tab [(1, vi a1), (5, .loc 0 0 (([] : List api_Edge).length)), (9, vl0 a0.Edges), (10, vi (a0.Edges.length : Int)), (11, vi 0)], stab [(0, .lst false (some 3) (List.map eapi_Edge ([] : List api_Edge)))], 1⟩) (Norm.trans (s2 := ⟨tab [(1, vi a1), (5, .loc 0 0 (([] : List api_Edge).length)), (9, vl0 a0.Edges), (10, vi (a0.Edges.length : Int)), (11, vi 0)], stab [(0, .lst false (some 3) (List.map eapi_Edge ([] : List api_Edge)))], 1⟩) (Norm.nil1 5 false (some 3) rfl) (nr [0])) ?_
 refine NWp.block ?_
 refine loop_forO (cntU (a0.Edges.length : Int)) (fun (i2 : Int) (qq : (List api_Edge)) => ⟨tab [(1, vi a1), (5, .loc 0 0 qq.length), (9, vl0 a0.Edges), (10, vi (a0.Edges.length : Int)), (11, vi i2)], stab [(0, .lst false (some 3) (List.map eapi_Edge qq))], 1⟩) 0 (fun (qq : (List api_Edge)) => ⟨tab [(5, .loc 0 0 qq.length)], stab [(0, .lst false (some 3) (List.map eapi_Edge qq))], 1⟩) Low low_step hl (by unfold Low; omega) ?_ ?_ ?_
 ·
  rintro i2 l1 xr7 hinv5 hgo4 h
  show NWp _ _ _ _ _ ⟨tab [(1, vi a1), (5, .loc 0 0 l1.length), (9, vl0 a0.Edges), (10, vi (a0.Edges.length : Int)), (11, vi i2)], stab [(0, .lst false (some 3) (List.map eapi_Edge l1))], 1⟩
  have hc6 : decide (i2 < (a0.Edges.length : Int)) = true := decide_eq_true hgo4
  refine NWp.opsJ ⟨tab [(1, vi a1), (5, .loc 0 0 l1.length), (9, vl0 a0.Edges), (10, vi (a0.Edges.length : Int)), (11, vi i2), (12, vb (decide (i2 < (a0.Edges.length : Int))))], stab [(0, .lst false (some 3) (List.map eapi_Edge l1))], 1⟩ ?_ ?_
  ·
   refine q1 _ ?_
   exact nR [0]
  refine NWp.rng 10 rfl fun hB3 => ?_
  refine NWp.seq ?_
  refine NWp.condT (t := decide (i2 < (a0.Edges.length : Int))) rfl hc6 ?_
  refine NWp.skip ?_
  obtain ⟨l11, hv, h⟩ := bindE h
  refine NWp.seqN ⟨tab [(1, vi a1), (5, .loc 0 0 l11.length), (9, vl0 a0.Edges), (10, vi (a0.Edges.length : Int)), (11, vi i2)], stab [(0, .lst false (some 3) (List.map eapi_Edge l11))], 1⟩ ?_ ?_
  ·
   replace h := hv
   refine NWp.block ?_
   obtain ⟨x8, hx8, h⟩ := bindE h
   refine NWp.opsJ ⟨tab [(1, vi a1), (5, .loc 0 0 l1.length), (7, .ptr 1 0 0), (9, vl0 a0.Edges), (10, vi (a0.Edges.length : Int)), (11, vi i2)], stab [(0, .lst false (some 3) (List.map eapi_Edge l1)), (1, .var [vi x8.From, vi x8.Rule, vi x8.To])], 2⟩ ?_ ?_
   ·
    refine step (v := vp5 x8) (st_iaddr (xs := a0.Edges) (e := eapi_Edge) hx8 rfl rfl) ?_
    refine q1 _ ?_
    refine step (v := .ptr 1 0 0) (σ' := (upd (stab [(0, .lst false (some 3) (List.map eapi_Edge l1))]) 1 (some (.var [vi 0, vi 0, vi 0])))) (n' := 2) rfl ?_
    refine step (v := V.undef) (σ' := (upd (upd (stab [(0, .lst false (some 3) (List.map eapi_Edge l1))]) 1 (some (.var [vi 0, vi 0, vi 0]))) 1 (some (.var [vi x8.From, vi x8.Rule, vi x8.To])))) (n' := 2) rfl ?_
    exact nR [0, 1]
   refine NWp.opsJ ⟨tab [(1, vi a1), (5, .loc 0 0 l1.length), (7, .ptr 1 0 0), (9, vl0 a0.Edges), (10, vi (a0.Edges.length : Int)), (11, vi i2), (18, vb (x8.From == a1))], stab [(0, .lst false (some 3) (List.map eapi_Edge l1)), (1, .var [vi x8.From, vi x8.Rule, vi x8.To])], 2⟩ ?_ ?_
   ·
    iterate 4 refine q1 _ ?_
    exact nR [0, 1]
   by_cases hc9 : (x8.From == a1) = true
   ·
    replace h := iteT hc9 h
    refine NWp.condT (t := (x8.From == a1)) rfl hc9 ?_
    obtain ⟨l10, hl10, h⟩ := bindE h
    have hh := Option.some.inj h
    subst hh
    refine NWp.opsE ⟨tab [(1, vi a1), (5, .loc 0 0 l10.length), (9, vl0 a0.Edges), (10, vi (a0.Edges.length : Int)), (11, vi i2)], stab [(0, .lst false (some 3) (List.map eapi_Edge l10))], 1⟩ ?_ ?_
    ·
     refine q1 _ ?_
     refine step (v := .d (eapi_Edge x8)) (st_ldV (ds := [.int .i64 x8.From, .int .i64 x8.Rule, .int .i64 x8.To]) rfl rfl (show 3 ≤ 3 by decide) rfl) ?_
     refine q1 _ ?_
     refine step (v := .loc 2 0 l10.length) (σ' := (upd (upd (stab [(0, .lst false (some 3) (List.map eapi_Edge l1)), (1, .var [vi x8.From, vi x8.Rule, vi x8.To])]) 0 none) 2 (some (.lst false (some 3) (List.map eapi_Edge l10))))) (n' := 3) (st_app (xs := l1) (ys := ([x8] : List api_Edge)) (e := eapi_Edge) hl10 rfl rfl rfl (src_v (xs := ([x8] : List api_Edge)) (e := eapi_Edge) rfl)) ?_
     refine q1 _ ?_
     exact nR [2]
    exact And.intro rfl rfl
   ·
    replace h := iteF hc9 h
    refine NWp.condF (t := (x8.From == a1)) rfl hc9 ?_
    have hh := Option.some.inj h
    subst hh
    refine NWp.norm (s0 := ⟨tab [(1, vi a1), (5, .loc 0 0 l1.length), (9, vl0 a0.Edges), (10, vi (a0.Edges.length : Int)), (11, vi i2)], stab [(0, .lst false (some 3) (List.map eapi_Edge l1))], 1⟩) (nr [0]) ?_
    refine NWp.skip ?_
    exact And.intro rfl rfl
  have hh := Option.some.inj h
  subst hh
  refine NWp.opsE ⟨tab [(1, vi a1), (5, .loc 0 0 l11.length), (9, vl0 a0.Edges), (10, vi (a0.Edges.length : Int)), (11, vi (i2 + 1))], stab [(0, .lst false (some 3) (List.map eapi_Edge l11))], 1⟩ ?_ ?_
  ·
   refine step (v := vi (i2 + 1)) (st_inc (inc_ok hinv5 hgo4 hB3) rfl rfl) ?_
   refine q1 _ ?_
   exact nR [0]
  exact And.intro rfl rfl
 ·
  rintro i2 l1 hinv5 hgo4
  show NWp _ _ _ _ _ ⟨tab [(1, vi a1), (5, .loc 0 0 l1.length), (9, vl0 a0.Edges), (10, vi (a0.Edges.length : Int)), (11, vi i2)], stab [(0, .lst false (some 3) (List.map eapi_Edge l1))], 1⟩
  have hc6 : ¬ (decide (i2 < (a0.Edges.length : Int)) = true) := fun hq => hgo4 (of_decide_eq_true hq)
  refine NWp.opsJ ⟨tab [(1, vi a1), (5, .loc 0 0 l1.length), (9, vl0 a0.Edges), (10, vi (a0.Edges.length : Int)), (11, vi i2), (12, vb (decide (i2 < (a0.Edges.length : Int))))], stab [(0, .lst false (some 3) (List.map eapi_Edge l1))], 1⟩ ?_ ?_
  ·
   refine q1 _ ?_
   exact nR [0]
  refine NWp.seq ?_
  refine NWp.condF (t := decide (i2 < (a0.Edges.length : Int))) rfl hc6 ?_
  refine NWp.norm (s0 := ⟨tab [(5, .loc 0 0 l1.length)], stab [(0, .lst false (some 3) (List.map eapi_Edge l1))], 1⟩) (nr [0]) ?_
  refine NWp.exit ?_
  exact And.intro rfl rfl
 refine NWp.opsJ ⟨tab [(4, .loc 0 0 z13.length)], stab [(0, .lst false (some 3) (List.map eapi_Edge z13))], 1⟩ ?_ ?_
 ·
  iterate 2 refine q1 _ ?_
  exact nR [0]
 have hh := Option.some.inj h
 subst hh
 refine NWp.ret ?_
 show FQ _ _ _ _
 exact FQ.mk1 (.inr rfl) (res_t (v := .loc 0 0 z13.length) rfl rfl) (RV.loc (xs := z13) (e := eapi_Edge) rfl rfl trivial)

theorem c_space_comesBack_1_s {self : Int → (List Int) → api_Space → Option (Bool × (List Int))} (hself : ∀ (a0 : Int) (a1 : (List Int)) (a2 : api_Space) (r : (Bool × (List Int))), self a0 a1 a2 = some r → SCall Try.prog 88 [vi a0, .ptr 0 0 0, vp0 a2, .ptr 2 0 0] (stab [(0, .var [.loc 1 0 a1.length]), (1, .lst true none (List.map (D.int .i64) a1)), (2, .var [.func 88 [.ptr 0 0 0, vp0 a2, .ptr 2 0 0]])]) 3 (vb r.1) (stab [(0, .var [.loc 1 0 r.2.length]), (1, .lst true none (List.map (D.int .i64) r.2)), (2, .var [.func 88 [.ptr 0 0 0, vp0 a2, .ptr 2 0 0]])]) 3) {a0 : Int} {a1 : (List Int)} {a2 : api_Space} {r : (Bool × (List Int))} (h : space_comesBack_1_s self a0 a1 a2 = some r) : SCall Try.prog 88 [vi a0, .ptr 0 0 0, vp0 a2, .ptr 2 0 0] (stab [(0, .var [.loc 1 0 a1.length]), (1, .lst true none (List.map (D.int .i64) a1)), (2, .var [.func 88 [.ptr 0 0 0, vp0 a2, .ptr 2 0 0]])]) 3 (vb r.1) (stab [(0, .var [.loc 1 0 r.2.length]), (1, .lst true none (List.map (D.int .i64) r.2)), (2, .var [.func 88 [.ptr 0 0 0, vp0 a2, .ptr 2 0 0]])]) 3 := by
 refine SCall.introN (bl := [(0, .var [.loc 1 0 a1.length]), (1, .lst true none (List.map (D.int .i64) a1)), (2, .var [.func 88 [.ptr 0 0 0, vp0 a2, .ptr 2 0 0]])]) (bl' := [(0, .var [.loc 1 0 r.2.length]), (1, .lst true none (List.map (D.int .i64) r.2)), (2, .var [.func 88 [.ptr 0 0 0, vp0 a2, .ptr 2 0 0]])]) ok88 (show 4 ≤ 37 by decide) rfl ?_
 refine NWp.norm (s0 := ⟨tab [(0, vi a0), (1, .ptr 0 0 0), (2, vp0 a2), (3, .ptr 2 0 0)], stab [(0, .var [.loc 1 0 a1.length]), (1, .lst true none (List.map (D.int .i64) a1)), (2, .var [.func 88 [.ptr 0 0 0, vp0 a2, .ptr 2 0 0]])], 3⟩) (nm [0, 1, 2] ⟨.d _, .pt 0, .d _, .pt 2, trivial⟩ ⟨⟨show 0 < 3 by decide, _, rfl, .vars ⟨.lc 1, trivial⟩⟩, ⟨show 1 < 3 by decide, _, rfl, .lst _ _ _⟩, ⟨show 2 < 3 by decide, _, rfl, .vars ⟨.funcs (VNs.c (.pt 0) (VNs.c (.d _) (VNs.c (.pt 2) VNs.nil0))), trivial⟩⟩, trivial⟩) ?_
 refine NWp.opsJ ⟨tab [(0, vi a0), (1, .ptr 0 0 0), (2, vp0 a2), (3, .ptr 2 0 0)], stab [(0, .var [.loc 1 0 a1.length]), (1, .lst true none (List.map (D.int .i64) a1)), (2, .var [.func 88 [.ptr 0 0 0, vp0 a2, .ptr 2 0 0]])], 3⟩ ?_ ?_
 ·
  refine q1 _ ?_
  exact RunOps.nil' (nm [0, 1, 2] ⟨.d _, .pt 0, .d _, .pt 2, trivial⟩ ⟨⟨show 0 < 3 by decide, _, rfl, .vars ⟨.lc 1, trivial⟩⟩, ⟨show 1 < 3 by decide, _, rfl, .lst _ _ _⟩, ⟨show 2 < 3 by decide, _, rfl, .vars ⟨.funcs (VNs.c (.pt 0) (VNs.c (.d _) (VNs.c (.pt 2) VNs.nil0))), trivial⟩⟩, trivial⟩)
 refine NWp.seq ?_
 obtain ⟨x1, hx1, h⟩ := bindE h
 refine NWp.opsJ ⟨tab [(0, vi a0), (1, .ptr 0 0 0), (2, vp0 a2), (3, .ptr 2 0 0), (12, vb (x1 != 0))], stab [(0, .var [.loc 1 0 a1.length]), (1, .lst true none (List.map (D.int .i64) a1)), (2, .var [.func 88 [.ptr 0 0 0, vp0 a2, .ptr 2 0 0]])], 3⟩ ?_ ?_
 ·
  iterate 2 refine q1 _ ?_
  refine step (v := .ptr 1 a0.toNat 0) (st_iaddrL (xs := a1) (e := (D.int .i64)) hx1 rfl rfl rfl rfl) ?_
  refine step (v := vi x1) (st_loadL (xs := a1) (e := (D.int .i64)) hx1 rfl rfl rfl) ?_
  refine q1 _ ?_
  exact RunOps.nil' (nm [0, 1, 2] ⟨.d _, .pt 0, .d _, .pt 2, .d _, trivial⟩ ⟨⟨show 0 < 3 by decide, _, rfl, .vars ⟨.lc 1, trivial⟩⟩, ⟨show 1 < 3 by decide, _, rfl, .lst _ _ _⟩, ⟨show 2 < 3 by decide, _, rfl, .vars ⟨.funcs (VNs.c (.pt 0) (VNs.c (.d _) (VNs.c (.pt 2) VNs.nil0))), trivial⟩⟩, trivial⟩)
 by_cases hc2 : (x1 != 0) = true
 ·
  replace h := iteT hc2 h
  refine NWp.condT (t := (x1 != 0)) rfl hc2 ?_
  refine NWp.opsJ ⟨tab [(5, vb (x1 == 1))], stab [(0, .var [.loc 1 0 a1.length]), (1, .lst true none (List.map (D.int .i64) a1)), (2, .var [.func 88 [.ptr 0 0 0, vp0 a2, .ptr 2 0 0]])], 3⟩ ?_ ?_
  ·
   iterate 2 refine q1 _ ?_
   refine step (v := .ptr 1 a0.toNat 0) (st_iaddrL (xs := a1) (e := (D.int .i64)) hx1 rfl rfl rfl rfl) ?_
   refine step (v := vi x1) (st_loadL (xs := a1) (e := (D.int .i64)) hx1 rfl rfl rfl) ?_
   iterate 2 refine q1 _ ?_
   exact RunOps.nil' (nm [0, 1, 2] ⟨.d _, trivial⟩ ⟨⟨show 0 < 3 by decide, _, rfl, .vars ⟨.lc 1, trivial⟩⟩, ⟨show 1 < 3 by decide, _, rfl, .lst _ _ _⟩, ⟨show 2 < 3 by decide, _, rfl, .vars ⟨.funcs (VNs.c (.pt 0) (VNs.c (.d _) (VNs.c (.pt 2) VNs.nil0))), trivial⟩⟩, trivial⟩)
  have hh := Option.some.inj h
  subst hh
  refine NWp.ret ?_
  exact ⟨.inr rfl, _, rfl, rfl, AllS.sub ⟨rfl, rfl, rfl, trivial⟩, rfl⟩
 ·
  replace h := iteF hc2 h
  refine NWp.condF (t := (x1 != 0)) rfl hc2 ?_
  refine NWp.skip ?_
  obtain ⟨l3, hl3, h⟩ := bindE h
  refine NWp.opsJ ⟨tab [(0, vi a0), (1, .ptr 0 0 0), (2, vp0 a2), (3, .ptr 2 0 0)], stab [(0, .var [.loc 1 0 l3.length]), (1, .lst true none (List.map (D.int .i64) l3)), (2, .var [.func 88 [.ptr 0 0 0, vp0 a2, .ptr 2 0 0]])], 3⟩ ?_ ?_
  ·
   iterate 2 refine q1 _ ?_
   refine step (v := .ptr 1 a0.toNat 0) (st_iaddrL (xs := a1) (e := (D.int .i64)) hx1 rfl rfl rfl rfl) ?_
   refine step (v := V.undef) (σ' := (upd (stab [(0, .var [.loc 1 0 a1.length]), (1, .lst true none (List.map (D.int .i64) a1)), (2, .var [.func 88 [.ptr 0 0 0, vp0 a2, .ptr 2 0 0]])]) 1 (some (.lst true none (List.map (D.int .i64) l3))))) (n' := 3) (st_storeL' (e := (D.int .i64)) (v' := 1) hl3 rfl rfl rfl rfl rfl) ?_
   exact RunOps.nil' (nm [0, 1, 2] ⟨.d _, .pt 0, .d _, .pt 2, trivial⟩ ⟨⟨show 0 < 3 by decide, _, rfl, .vars ⟨.le (id := 1) (gput_len hl3).symm (show 1 < 3 by decide), trivial⟩⟩, ⟨show 1 < 3 by decide, _, rfl, .lst _ _ _⟩, ⟨show 2 < 3 by decide, _, rfl, .vars ⟨.funcs (VNs.c (.pt 0) (VNs.c (.d _) (VNs.c (.pt 2) VNs.nil0))), trivial⟩⟩, trivial⟩)
  refine NWp.seq ?_
  obtain ⟨r4, hr4, h⟩ := bindE h
  refine NWp.opsJ ⟨tab [(0, vi a0), (1, .ptr 0 0 0), (3, .ptr 2 0 0), (23, vl0 r4), (24, vi (r4.length : Int)), (25, vi 0)], stab [(0, .var [.loc 1 0 l3.length]), (1, .lst true none (List.map (D.int .i64) l3)), (2, .var [.func 88 [.ptr 0 0 0, vp0 a2, .ptr 2 0 0]])], 3⟩ ?_ ?_
  ·
   iterate 2 refine q1 _ ?_
   refine stepC (r := eL (some 3) eapi_Edge r4) (ArgsOk.dt (ArgsOk.dt ArgsOk.nil')) (c_space_From hr4) ?_
   refine step (v := vi (r4.length : Int)) (st_len (xs := r4) (e := eapi_Edge) rfl) ?_
   refine q1 _ ?_
   exact RunOps.nil' (nm [0, 1, 2] ⟨.d _, .pt 0, .pt 2, .d _, .d _, .d _, trivial⟩ ⟨⟨show 0 < 3 by decide, _, rfl, .vars ⟨.lc 1, trivial⟩⟩, ⟨show 1 < 3 by decide, _, rfl, .lst _ _ _⟩, ⟨show 2 < 3 by decide, _, rfl, .vars ⟨.funcs (VNs.c (.pt 0) (VNs.c (.d _) (VNs.c (.pt 2) VNs.nil0))), trivial⟩⟩, trivial⟩)
  obtain ⟨q18, hl, h⟩ := bindE h
  refine NWp.block ?_
  refine loop_forR (cntU (r4.length : Int)) (fun (i6 : Int) (qq : (List Int)) => ⟨tab [(0, vi a0), (1, .ptr 0 0 0), (3, .ptr 2 0 0), (23, vl0 r4), (24, vi (r4.length : Int)), (25, vi i6)], stab [(0, .var [.loc 1 0 qq.length]), (1, .lst true none (List.map (D.int .i64) qq)), (2, .var [.func 88 [.ptr 0 0 0, vp0 a2, .ptr 2 0 0]])], 3⟩) 0 (fun (qq : (List Int)) => ⟨tab [(0, vi a0), (1, .ptr 0 0 0)], stab [(0, .var [.loc 1 0 qq.length]), (1, .lst true none (List.map (D.int .i64) qq)), (2, .var [.func 88 [.ptr 0 0 0, vp0 a2, .ptr 2 0 0]])], 3⟩) Low low_step (r := r) hl (by unfold Low; omega) ?_ ?_ ?_ ?_
  ·
   rintro i6 l5 xr11 hinv9 hgo8 h
   show NWp _ _ _ _ _ ⟨tab [(0, vi a0), (1, .ptr 0 0 0), (3, .ptr 2 0 0), (23, vl0 r4), (24, vi (r4.length : Int)), (25, vi i6)], stab [(0, .var [.loc 1 0 l5.length]), (1, .lst true none (List.map (D.int .i64) l5)), (2, .var [.func 88 [.ptr 0 0 0, vp0 a2, .ptr 2 0 0]])], 3⟩
   have hc10 : decide (i6 < (r4.length : Int)) = true := decide_eq_true hgo8
   refine NWp.opsJ ⟨tab [(0, vi a0), (1, .ptr 0 0 0), (3, .ptr 2 0 0), (23, vl0 r4), (24, vi (r4.length : Int)), (25, vi i6), (26, vb (decide (i6 < (r4.length : Int))))], stab [(0, .var [.loc 1 0 l5.length]), (1, .lst true none (List.map (D.int .i64) l5)), (2, .var [.func 88 [.ptr 0 0 0, vp0 a2, .ptr 2 0 0]])], 3⟩ ?_ ?_
   ·
    refine q1 _ ?_
    exact RunOps.nil' (nm [0, 1, 2] ⟨.d _, .pt 0, .pt 2, .d _, .d _, .d _, .d _, trivial⟩ ⟨⟨show 0 < 3 by decide, _, rfl, .vars ⟨.lc 1, trivial⟩⟩, ⟨show 1 < 3 by decide, _, rfl, .lst _ _ _⟩, ⟨show 2 < 3 by decide, _, rfl, .vars ⟨.funcs (VNs.c (.pt 0) (VNs.c (.d _) (VNs.c (.pt 2) VNs.nil0))), trivial⟩⟩, trivial⟩)
   refine NWp.rng 24 rfl fun hB7 => ?_
   refine NWp.seq ?_
   refine NWp.condT (t := decide (i6 < (r4.length : Int))) rfl hc10 ?_
   refine NWp.skip ?_
   refine NWp.seq ?_
   refine NWp.block ?_
   obtain ⟨x12, hx12, h⟩ := bindE h
   refine NWp.opsJ ⟨tab [(0, vi a0), (1, .ptr 0 0 0), (3, .ptr 2 0 0), (7, .ptr 3 0 0), (23, vl0 r4), (24, vi (r4.length : Int)), (25, vi i6)], stab [(0, .var [.loc 1 0 l5.length]), (1, .lst true none (List.map (D.int .i64) l5)), (2, .var [.func 88 [.ptr 0 0 0, vp0 a2, .ptr 2 0 0]]), (3, .var [vi x12.From, vi x12.Rule, vi x12.To])], 4⟩ ?_ ?_
   ·
    refine step (v := vp5 x12) (st_iaddr (xs := r4) (e := eapi_Edge) hx12 rfl rfl) ?_
    refine q1 _ ?_
    refine step (v := .ptr 3 0 0) (σ' := (upd (stab [(0, .var [.loc 1 0 l5.length]), (1, .lst true none (List.map (D.int .i64) l5)), (2, .var [.func 88 [.ptr 0 0 0, vp0 a2, .ptr 2 0 0]])]) 3 (some (.var [vi 0, vi 0, vi 0])))) (n' := 4) rfl ?_
    refine step (v := V.undef) (σ' := (upd (upd (stab [(0, .var [.loc 1 0 l5.length]), (1, .lst true none (List.map (D.int .i64) l5)), (2, .var [.func 88 [.ptr 0 0 0, vp0 a2, .ptr 2 0 0]])]) 3 (some (.var [vi 0, vi 0, vi 0]))) 3 (some (.var [vi x12.From, vi x12.Rule, vi x12.To])))) (n' := 4) rfl ?_
    exact RunOps.nil' (nm [0, 1, 2, 3] ⟨.d _, .pt 0, .pt 2, .pt 3, .d _, .d _, .d _, trivial⟩ ⟨⟨show 0 < 4 by decide, _, rfl, .vars ⟨.lc 1, trivial⟩⟩, ⟨show 1 < 4 by decide, _, rfl, .lst _ _ _⟩, ⟨show 2 < 4 by decide, _, rfl, .vars ⟨.funcs (VNs.c (.pt 0) (VNs.c (.d _) (VNs.c (.pt 2) VNs.nil0))), trivial⟩⟩, ⟨show 3 < 4 by decide, _, rfl, .vars ⟨.d _, .d _, .d _, trivial⟩⟩, trivial⟩)
   obtain ⟨r13, hr13, h⟩ := bindE h
   refine NWp.opsJ ⟨tab [(0, vi a0), (1, .ptr 0 0 0), (3, .ptr 2 0 0), (23, vl0 r4), (24, vi (r4.length : Int)), (25, vi i6), (32, vb r13.1)], stab [(0, .var [.loc 1 0 r13.2.length]), (1, .lst true none (List.map (D.int .i64) r13.2)), (2, .var [.func 88 [.ptr 0 0 0, vp0 a2, .ptr 2 0 0]])], 3⟩ ?_ ?_
   ·
    iterate 3 refine q1 _ ?_
    refine stepVW (v := vb r13.1) (σ' := (upd (upd (upd (upd (upd (upd (stab [(0, .var [.loc 1 0 l5.length]), (1, .lst true none (List.map (D.int .i64) l5)), (2, .var [.func 88 [.ptr 0 0 0, vp0 a2, .ptr 2 0 0]]), (3, .var [vi x12.From, vi x12.Rule, vi x12.To])]) 2 none) 1 none) 0 none) 2 (some (.var [.func 88 [.ptr 0 0 0, vp0 a2, .ptr 2 0 0]]))) 1 (some (.lst true none (List.map (D.int .i64) r13.2)))) 0 (some (.var [.loc 1 0 r13.2.length])))) (n' := 4) rfl (SCall.lift [0, 1, 2] (hself _ _ _ _ hr13) (show 3 ≤ 3 by decide) (by decide) (show ∀ i ∈ [0, 1, 2], i < 4 by decide) (dom_c (show 0 < 3 by decide) (dom_c (show 1 < 3 by decide) (dom_c (show 2 < 3 by decide) dom_n))) (VNs.c (.d _) (VNs.c (.pt 0) (VNs.c (.d _) (VNs.c (.pt 2) VNs.nil0)))) (SN.c (show 0 < 3 by decide) rfl (.vars (VNs.c (.lc 1) VNs.nil0)) (SN.c (show 1 < 3 by decide) rfl (.lst _ _ _) (SN.c (show 2 < 3 by decide) rfl (.vars (VNs.c (.funcs (VNs.c (.pt 0) (VNs.c (.d _) (VNs.c (.pt 2) VNs.nil0)))) VNs.nil0)) SN.nil0)))) (show 4 ≤ 4 by decide) ?_
    exact RunOps.nil' (nm [0, 1, 2] ⟨.d _, .pt 0, .pt 2, .d _, .d _, .d _, .d _, trivial⟩ ⟨⟨show 0 < 3 by decide, _, rfl, .vars ⟨.lc 1, trivial⟩⟩, ⟨show 1 < 3 by decide, _, rfl, .lst _ _ _⟩, ⟨show 2 < 3 by decide, _, rfl, .vars ⟨.funcs (VNs.c (.pt 0) (VNs.c (.d _) (VNs.c (.pt 2) VNs.nil0))), trivial⟩⟩, trivial⟩)
   by_cases hc14 : r13.1 = true
   ·
    replace h := iteT hc14 h
    refine NWp.condT (t := r13.1) rfl hc14 ?_
    refine NWp.opsJ ⟨tab [(5, vb true)], stab [(0, .var [.loc 1 0 r13.2.length]), (1, .lst true none (List.map (D.int .i64) r13.2)), (2, .var [.func 88 [.ptr 0 0 0, vp0 a2, .ptr 2 0 0]])], 3⟩ ?_ ?_
    ·
     refine q1 _ ?_
     exact RunOps.nil' (nm [0, 1, 2] ⟨.d _, trivial⟩ ⟨⟨show 0 < 3 by decide, _, rfl, .vars ⟨.lc 1, trivial⟩⟩, ⟨show 1 < 3 by decide, _, rfl, .lst _ _ _⟩, ⟨show 2 < 3 by decide, _, rfl, .vars ⟨.funcs (VNs.c (.pt 0) (VNs.c (.d _) (VNs.c (.pt 2) VNs.nil0))), trivial⟩⟩, trivial⟩)
    obtain ⟨r15, kr15, hr⟩ := mapE (o := some (true, r13.2)) (g := Br.ret) h
    subst hr
    have h := kr15
    have hh := Option.some.inj h
    subst hh
    refine NWp.ret ?_
    refine And.intro (fun hn => nomatch hn) ?_
    intro hq
    have hq := hq.symm
    subst hq
    exact ⟨.inr rfl, _, rfl, rfl, AllS.sub ⟨rfl, rfl, rfl, trivial⟩, rfl⟩
   ·
    replace h := iteF hc14 h
    refine NWp.condF (t := r13.1) rfl hc14 ?_
    refine NWp.skip ?_
    have hh := Option.some.inj h
    subst hh
    refine NWp.opsE ⟨tab [(0, vi a0), (1, .ptr 0 0 0), (3, .ptr 2 0 0), (23, vl0 r4), (24, vi (r4.length : Int)), (25, vi (i6 + 1))], stab [(0, .var [.loc 1 0 r13.2.length]), (1, .lst true none (List.map (D.int .i64) r13.2)), (2, .var [.func 88 [.ptr 0 0 0, vp0 a2, .ptr 2 0 0]])], 3⟩ ?_ ?_
    ·
     refine step (v := vi (i6 + 1)) (st_inc (inc_ok hinv9 hgo8 hB7) rfl rfl) ?_
     refine q1 _ ?_
     exact RunOps.nil' (nm [0, 1, 2] ⟨.d _, .pt 0, .pt 2, .d _, .d _, .d _, trivial⟩ ⟨⟨show 0 < 3 by decide, _, rfl, .vars ⟨.lc 1, trivial⟩⟩, ⟨show 1 < 3 by decide, _, rfl, .lst _ _ _⟩, ⟨show 2 < 3 by decide, _, rfl, .vars ⟨.funcs (VNs.c (.pt 0) (VNs.c (.d _) (VNs.c (.pt 2) VNs.nil0))), trivial⟩⟩, trivial⟩)
    exact And.intro rfl rfl
  ·
   rintro i6 l5 hinv9 hgo8
   show NWp _ _ _ _ _ ⟨tab [(0, vi a0), (1, .ptr 0 0 0), (3, .ptr 2 0 0), (23, vl0 r4), (24, vi (r4.length : Int)), (25, vi i6)], stab [(0, .var [.loc 1 0 l5.length]), (1, .lst true none (List.map (D.int .i64) l5)), (2, .var [.func 88 [.ptr 0 0 0, vp0 a2, .ptr 2 0 0]])], 3⟩
   have hc10 : ¬ (decide (i6 < (r4.length : Int)) = true) := fun hq => hgo8 (of_decide_eq_true hq)
   refine NWp.opsJ ⟨tab [(0, vi a0), (1, .ptr 0 0 0), (3, .ptr 2 0 0), (23, vl0 r4), (24, vi (r4.length : Int)), (25, vi i6), (26, vb (decide (i6 < (r4.length : Int))))], stab [(0, .var [.loc 1 0 l5.length]), (1, .lst true none (List.map (D.int .i64) l5)), (2, .var [.func 88 [.ptr 0 0 0, vp0 a2, .ptr 2 0 0]])], 3⟩ ?_ ?_
   ·
    refine q1 _ ?_
    exact RunOps.nil' (nm [0, 1, 2] ⟨.d _, .pt 0, .pt 2, .d _, .d _, .d _, .d _, trivial⟩ ⟨⟨show 0 < 3 by decide, _, rfl, .vars ⟨.lc 1, trivial⟩⟩, ⟨show 1 < 3 by decide, _, rfl, .lst _ _ _⟩, ⟨show 2 < 3 by decide, _, rfl, .vars ⟨.funcs (VNs.c (.pt 0) (VNs.c (.d _) (VNs.c (.pt 2) VNs.nil0))), trivial⟩⟩, trivial⟩)
   refine NWp.seq ?_
   refine NWp.condF (t := decide (i6 < (r4.length : Int))) rfl hc10 ?_
   refine NWp.norm (s0 := ⟨tab [(0, vi a0), (1, .ptr 0 0 0)], stab [(0, .var [.loc 1 0 l5.length]), (1, .lst true none (List.map (D.int .i64) l5)), (2, .var [.func 88 [.ptr 0 0 0, vp0 a2, .ptr 2 0 0]])], 3⟩) (nm [0, 1, 2] ⟨.d _, .pt 0, trivial⟩ ⟨⟨show 0 < 3 by decide, _, rfl, .vars ⟨.lc 1, trivial⟩⟩, ⟨show 1 < 3 by decide, _, rfl, .lst _ _ _⟩, ⟨show 2 < 3 by decide, _, rfl, .vars ⟨.funcs (VNs.c (.pt 0) (VNs.c (.d _) (VNs.c (.pt 2) VNs.nil0))), trivial⟩⟩, trivial⟩) ?_
   refine NWp.exit ?_
   exact And.intro rfl rfl
  ·
   intro r' hq
   subst hq
   exact Option.some.inj h
  rintro z15 rfl
  obtain ⟨x16, hx16, h⟩ := bindE h
  obtain ⟨l17, hl17, h⟩ := bindE h
  refine NWp.opsJ ⟨tab [], stab [(0, .var [.loc 1 0 l17.length]), (1, .lst true none (List.map (D.int .i64) l17)), (2, .var [.func 88 [.ptr 0 0 0, vp0 a2, .ptr 2 0 0]])], 3⟩ ?_ ?_
  ·
   iterate 2 refine q1 _ ?_
   refine step (v := .ptr 1 a0.toNat 0) (st_iaddrL (xs := z15) (e := (D.int .i64)) hx16 rfl rfl rfl rfl) ?_
   refine step (v := V.undef) (σ' := (upd (stab [(0, .var [.loc 1 0 z15.length]), (1, .lst true none (List.map (D.int .i64) z15)), (2, .var [.func 88 [.ptr 0 0 0, vp0 a2, .ptr 2 0 0]])]) 1 (some (.lst true none (List.map (D.int .i64) l17))))) (n' := 3) (st_storeL' (e := (D.int .i64)) (v' := 2) hl17 rfl rfl rfl rfl rfl) ?_
   exact RunOps.nil' (nm [0, 1, 2] trivial ⟨⟨show 0 < 3 by decide, _, rfl, .vars ⟨.le (id := 1) (gput_len hl17).symm (show 1 < 3 by decide), trivial⟩⟩, ⟨show 1 < 3 by decide, _, rfl, .lst _ _ _⟩, ⟨show 2 < 3 by decide, _, rfl, .vars ⟨.funcs (VNs.c (.pt 0) (VNs.c (.d _) (VNs.c (.pt 2) VNs.nil0))), trivial⟩⟩, trivial⟩)
  refine NWp.opsJ ⟨tab [(5, vb false)], stab [(0, .var [.loc 1 0 l17.length]), (1, .lst true none (List.map (D.int .i64) l17)), (2, .var [.func 88 [.ptr 0 0 0, vp0 a2, .ptr 2 0 0]])], 3⟩ ?_ ?_
  ·
   refine q1 _ ?_
   exact RunOps.nil' (nm [0, 1, 2] ⟨.d _, trivial⟩ ⟨⟨show 0 < 3 by decide, _, rfl, .vars ⟨.lc 1, trivial⟩⟩, ⟨show 1 < 3 by decide, _, rfl, .lst _ _ _⟩, ⟨show 2 < 3 by decide, _, rfl, .vars ⟨.funcs (VNs.c (.pt 0) (VNs.c (.d _) (VNs.c (.pt 2) VNs.nil0))), trivial⟩⟩, trivial⟩)
  have hh := Option.some.inj h
  subst hh
  refine NWp.ret ?_
  exact ⟨.inr rfl, _, rfl, rfl, AllS.sub ⟨rfl, rfl, rfl, trivial⟩, rfl⟩

theorem c_space_comesBack_1_f : ∀ (k : Nat) (a0 : Int) (a1 : (List Int)) (a2 : api_Space) (r : (Bool × (List Int))), space_comesBack_1_f k a0 a1 a2 = some r → SCall Try.prog 88 [vi a0, .ptr 0 0 0, vp0 a2, .ptr 2 0 0] (stab [(0, .var [.loc 1 0 a1.length]), (1, .lst true none (List.map (D.int .i64) a1)), (2, .var [.func 88 [.ptr 0 0 0, vp0 a2, .ptr 2 0 0]])]) 3 (vb r.1) (stab [(0, .var [.loc 1 0 r.2.length]), (1, .lst true none (List.map (D.int .i64) r.2)), (2, .var [.func 88 [.ptr 0 0 0, vp0 a2, .ptr 2 0 0]])]) 3
 | 0, _, _, _, _, h => by cases h
 | k + 1, _, _, _, _, h => c_space_comesBack_1_s (c_space_comesBack_1_f k) h

theorem c_space_comesBack_1 {a0 : Int} {a1 : (List Int)} {a2 : api_Space} {r : (Bool × (List Int))} (h : space_comesBack_1 a0 a1 a2 = some r) : SCall Try.prog 88 [vi a0, .ptr 0 0 0, vp0 a2, .ptr 2 0 0] (stab [(0, .var [.loc 1 0 a1.length]), (1, .lst true none (List.map (D.int .i64) a1)), (2, .var [.func 88 [.ptr 0 0 0, vp0 a2, .ptr 2 0 0]])]) 3 (vb r.1) (stab [(0, .var [.loc 1 0 r.2.length]), (1, .lst true none (List.map (D.int .i64) r.2)), (2, .var [.func 88 [.ptr 0 0 0, vp0 a2, .ptr 2 0 0]])]) 3 := c_space_comesBack_1_f FUEL _ _ _ _ h

theorem c_space_comesBack {a0 : api_Space} {r : Bool} (h : space_comesBack a0 = some r) : PCall Try.prog 69 [eapi_Space a0] (.bool r) := by
 refine PCall.introN ok69 (show 1 ≤ 17 by decide) ?_
 refine NWp.norm (s0 := ⟨tab [(0, vs1 a0)], stab [], 0⟩) (nr []) ?_
 refine NWp.opsJ ⟨tab [(1, vp0 a0)], stab [], 0⟩ ?_ ?_
 ·
  iterate 2 refine q1 _ ?_
  exact nR []
 obtain ⟨l1, hl1, h⟩ := bindE h
 refine NWp.opsJ ⟨tab [(1, vp0 a0), (3, .ptr 0 0 0)], stab [(0, .var [.loc 1 0 l1.length]), (1, .lst true none (List.map (D.int .i64) l1))], 2⟩ ?_ ?_
 ·
  iterate 2 refine q1 _ ?_
  refine step (v := vi (a0.States.length : Int)) (st_len (xs := a0.States) (e := (eL none (D.int .u16))) rfl) ?_
  refine step (v := .loc 0 0 l1.length) (σ' := (upd (stab []) 0 (some (.lst true none (List.map (D.int .i64) l1))))) (n' := 1) (st_mk (e := (D.int .i64)) (z := 0) hl1 rfl rfl (gmk_le hl1)) ?_
  refine step (v := .ptr 1 0 0) (σ' := (upd (upd (stab []) 0 (some (.lst true none (List.map (D.int .i64) l1)))) 1 (some (.var [.d (.nils)])))) (n' := 2) rfl ?_
  refine step (v := V.undef) (σ' := (upd (upd (upd (stab []) 0 (some (.lst true none (List.map (D.int .i64) l1)))) 1 (some (.var [.d (.nils)]))) 1 (some (.var [.loc 0 0 l1.length])))) (n' := 2) rfl ?_
  exact nR [1, 0]
 refine NWp.opsJ ⟨tab [(1, vp0 a0), (3, .ptr 0 0 0), (4, .ptr 2 0 0)], stab [(0, .var [.loc 1 0 l1.length]), (1, .lst true none (List.map (D.int .i64) l1)), (2, .var [.d (.nilf)])], 3⟩ ?_ ?_
 ·
  refine step (v := .ptr 2 0 0) (σ' := (upd (stab [(0, .var [.loc 1 0 l1.length]), (1, .lst true none (List.map (D.int .i64) l1))]) 2 (some (.var [.d (.nilf)])))) (n' := 3) rfl ?_
  exact nR [0, 1, 2]
 refine NWp.opsJ ⟨tab [(3, .ptr 0 0 0), (4, .ptr 2 0 0)], stab [(0, .var [.loc 1 0 l1.length]), (1, .lst true none (List.map (D.int .i64) l1)), (2, .var [.func 88 [.ptr 0 0 0, vp0 a0, .ptr 2 0 0]])], 3⟩ ?_ ?_
 ·
  refine q1 _ ?_
  refine step (v := V.undef) (σ' := (upd (stab [(0, .var [.loc 1 0 l1.length]), (1, .lst true none (List.map (D.int .i64) l1)), (2, .var [.d (.nilf)])]) 2 (some (.var [.func 88 [.ptr 0 0 0, vp0 a0, .ptr 2 0 0]])))) (n' := 3) rfl ?_
  exact RunOps.nil' (nm [0, 1, 2] ⟨.pt 0, .pt 2, trivial⟩ ⟨⟨show 0 < 3 by decide, _, rfl, .vars ⟨.lc 1, trivial⟩⟩, ⟨show 1 < 3 by decide, _, rfl, .lst _ _ _⟩, ⟨show 2 < 3 by decide, _, rfl, .vars ⟨.funcs (VNs.c (.pt 0) (VNs.c (.d _) (VNs.c (.pt 2) VNs.nil0))), trivial⟩⟩, trivial⟩)
 obtain ⟨y4, hv, h⟩ := bindE h
 refine NWp.opsJ ⟨tab [(2, vb y4)], stab [], 0⟩ ?_ ?_
 ·
  iterate 4 refine q1 _ ?_
  by_cases hg2 : decide ((l1.length : Int) > 0) = true
  ·
   replace hv := iteT hg2 hv
   obtain ⟨r3, hr3, hv⟩ := bindE hv
   refine qG _ hg2 ?_
   refine q1 _ ?_
   refine qG _ hg2 ?_
   refine stepVW (v := vb r3.1) (σ' := (upd (upd (upd (upd (upd (upd (stab [(0, .var [.loc 1 0 l1.length]), (1, .lst true none (List.map (D.int .i64) l1)), (2, .var [.func 88 [.ptr 0 0 0, vp0 a0, .ptr 2 0 0]])]) 2 none) 1 none) 0 none) 2 (some (.var [.func 88 [.ptr 0 0 0, vp0 a0, .ptr 2 0 0]]))) 1 (some (.lst true none (List.map (D.int .i64) r3.2)))) 0 (some (.var [.loc 1 0 r3.2.length])))) (n' := 3) rfl (SCall.lift [0, 1, 2] (c_space_comesBack_1 hr3) (show 3 ≤ 3 by decide) (by decide) (show ∀ i ∈ [0, 1, 2], i < 3 by decide) (dom_c (show 0 < 3 by decide) (dom_c (show 1 < 3 by decide) (dom_c (show 2 < 3 by decide) dom_n))) (VNs.c (.d _) (VNs.c (.pt 0) (VNs.c (.d _) (VNs.c (.pt 2) VNs.nil0)))) (SN.c (show 0 < 3 by decide) rfl (.vars (VNs.c (.lc 1) VNs.nil0)) (SN.c (show 1 < 3 by decide) rfl (.lst _ _ _) (SN.c (show 2 < 3 by decide) rfl (.vars (VNs.c (.funcs (VNs.c (.pt 0) (VNs.c (.d _) (VNs.c (.pt 2) VNs.nil0)))) VNs.nil0)) SN.nil0)))) (show 3 ≤ 3 by decide) ?_
   refine step (v := vb r3.1) (st_pickT (b := decide ((l1.length : Int) > 0)) rfl hg2 rfl) ?_
   refine q1 _ ?_
   have hh := Option.some.inj hv
   subst hh
   exact nR []
  ·
   replace hv := iteF hg2 hv
   iterate 2 refine qX _ hg2 ?_
   refine step (v := vb false) (st_pickF (b := decide ((l1.length : Int) > 0)) rfl hg2 rfl) ?_
   refine q1 _ ?_
   have hh := Option.some.inj hv
   subst hh
   exact nR []
 have hh := Option.some.inj h
 subst hh
 refine NWp.ret ?_
 show FQ _ _ _ _
 exact FQ.mk1 (.inr rfl) (res_t (v := vb y4) rfl rfl) (RV.d trivial)

theorem c_space_Explore {a0 : api_Program} {r : (api_Space × Int)} (h : space_Explore a0 = some r) : PCall Try.prog 25 [eapi_Program a0] (.tup [eapi_Space r.1, .int .i64 r.2]) := by
 refine PCall.introN ok25 (show 1 ≤ 99 by decide) ?_
 refine NWp.norm (s0 := ⟨tab [(0, vs3 a0)], stab [], 0⟩) (nr []) ?_
 refine NWp.opsJ ⟨tab [(1, vp2 a0), (2, .ptr 0 0 0)], stab [(0, .var [.d (eL none (eL none (D.int .u16)) []), vl0 []])], 1⟩ ?_ ?_
 ·
  refine q1 _ ?_
  refine step (v := .ptr 0 0 0) (σ' := (upd (stab []) 0 (some (.var [.d (eL none (eL none (D.int .u16)) []), vl0 []])))) (n' := 1) rfl ?_
  refine q1 _ ?_
  exact nR [0]
 refine NWp.seq ?_
 obtain ⟨r1, hr1, h⟩ := bindE h
 refine NWp.opsJ ⟨tab [(1, vp2 a0), (2, .ptr 0 0 0), (4, vi r1)], stab [(0, .var [.d (eL none (eL none (D.int .u16)) []), vl0 []])], 1⟩ ?_ ?_
 ·
  refine q1 _ ?_
  refine stepC (r := .int .i64 r1) (ArgsOk.dt ArgsOk.nil') (c_syntax_Check hr1) ?_
  refine q1 _ ?_
  exact nR [0]
 refine NWp.opsJ ⟨tab [(1, vp2 a0), (2, .ptr 0 0 0), (4, vi r1), (14, vb (r1 != 0))], stab [(0, .var [.d (eL none (eL none (D.int .u16)) []), vl0 []])], 1⟩ ?_ ?_
 ·
  iterate 2 refine q1 _ ?_
  exact nR [0]
 by_cases hc2 : (r1 != 0) = true
 ·
  replace h := iteT hc2 h
  refine NWp.condT (t := (r1 != 0)) rfl hc2 ?_
  refine NWp.opsJ ⟨tab [(2, .ptr 0 0 0), (3, vi r1)], stab [(0, .var [.d (eL none (eL none (D.int .u16)) []), vl0 []])], 1⟩ ?_ ?_
  ·
   refine step (v := vs1 (api_Space.mk [] [])) (st_build (ds := [eL none (eL none (D.int .u16)) [], eL (some 3) eapi_Edge []]) rfl) ?_
   refine q1 _ ?_
   refine step (v := V.undef) (σ' := (upd (stab [(0, .var [.d (eL none (eL none (D.int .u16)) []), vl0 []])]) 0 (some (.var [.d (eL none (eL none (D.int .u16)) []), vl0 []])))) (n' := 1) rfl ?_
   refine q1 _ ?_
   exact nR [0]
  have hh := Option.some.inj h
  subst hh
  refine NWp.ret ?_
  show FQ _ _ _ _
  exact FQ.mkT (.inr rfl) (res_cell (ds := [eL none (eL none (D.int .u16)) [], eL (some 3) eapi_Edge []]) rfl rfl (show 2 ≤ 2 by decide) rfl (res_t (v := vi r1) rfl rfl)) (RV.d (RV.d trivial))
 ·
  replace h := iteF hc2 h
  refine NWp.condF (t := (r1 != 0)) rfl hc2 ?_
  refine NWp.skip ?_
  refine NWp.opsJ ⟨tab [(1, vp2 a0), (2, .ptr 0 0 0), (5, .ptr 1 0 0)], stab [(0, .var [.d (eL none (eL none (D.int .u16)) []), vl0 []]), (1, .var [.loc 3 0 (([] : List (List Int)).length), .loc 4 0 (([] : List api_Edge).length), .mref 2]), (2, .mp (eM D.str (D.int .i64) ([] : List (ByteArray × Int)))), (3, .lst false none (List.map (eL none (D.int .u16)) ([] : List (List Int)))), (4, .lst false (some 3) (List.map eapi_Edge ([] : List api_Edge)))], 5⟩ ?_ ?_
  ·
   refine step (v := .mref 1) (σ' := (upd (stab [(0, .var [.d (eL none (eL none (D.int .u16)) []), vl0 []])]) 1 (some (.mp (eM D.str (D.int .i64) ([] : List (ByteArray × Int))))))) (n' := 2) rfl ?_
   refine q1 _ ?_
   refine step (v := .ptr 2 0 0) (σ' := (upd (upd (stab [(0, .var [.d (eL none (eL none (D.int .u16)) []), vl0 []])]) 1 (some (.mp (eM D.str (D.int .i64) ([] : List (ByteArray × Int)))))) 2 (some (.var [.d (.nils), .d (.nils), .mref 1])))) (n' := 3) rfl ?_
   refine q1 _ ?_
   exact RunOps.nil' (Norm.trans (s2 := ⟨tab [(1, vp2 a0), (2, .ptr 0 0 0), (5, .ptr 1 0 0)], stab [(0, .var [.d (eL none (eL none (D.int .u16)) []), vl0 []]), (1, .var [.loc 3 0 (([] : List (List Int)).length), .loc 4 0 (([] : List api_Edge).length), .mref 2]), (2, .mp (eM D.str (D.int .i64) ([] : List (ByteArray × Int)))), (3, .lst false none (List.map (eL none (D.int .u16)) ([] : List (List Int)))), (4, .lst false (some 3) (List.map eapi_Edge ([] : List api_Edge)))], 5⟩) (Norm.nilcell 2 0 false none rfl rfl (show 2 ≠ 3 by decide)) (Norm.trans (s2 := ⟨tab [(1, vp2 a0), (2, .ptr 0 0 0), (5, .ptr 1 0 0)], stab [(0, .var [.d (eL none (eL none (D.int .u16)) []), vl0 []]), (1, .var [.loc 3 0 (([] : List (List Int)).length), .loc 4 0 (([] : List api_Edge).length), .mref 2]), (2, .mp (eM D.str (D.int .i64) ([] : List (ByteArray × Int)))), (3, .lst false none (List.map (eL none (D.int .u16)) ([] : List (List Int)))), (4, .lst false (some 3) (List.map eapi_Edge ([] : List api_Edge)))], 5⟩) (Norm.nilcell 2 1 false (some 3) rfl rfl (show 2 ≠ 4 by decide)) (nm [0, 2, 1, 3, 4] ⟨.d _, .pt 0, .pt 1, trivial⟩ ⟨⟨show 0 < 5 by decide, _, rfl, .vars ⟨.d _, .d _, trivial⟩⟩, ⟨show 1 < 5 by decide, _, rfl, .vars ⟨.lc 3, .lc 4, .mref 2 (show 2 < 5 by decide), trivial⟩⟩, ⟨show 2 < 5 by decide, _, rfl, .mp _⟩, ⟨show 3 < 5 by decide, _, rfl, .lst _ _ _⟩, ⟨show 4 < 5 by decide, _, rfl, .lst _ _ _⟩, trivial⟩)))
  obtain ⟨r3, hr3, h⟩ := bindE h
  obtain ⟨r4, hr4, h⟩ := bindE h
  refine NWp.opsJ ⟨tab [(1, vp2 a0), (2, .ptr 0 0 0), (5, .ptr 1 0 0)], stab [(0, .var [.d (eL none (eL none (D.int .u16)) []), vl0 []]), (1, .var [.loc 2 0 r4.2.s.States.length, .loc 3 0 (([] : List api_Edge).length), .mref 4]), (2, .lst false none (List.map (eL none (D.int .u16)) r4.2.s.States)), (3, .lst false (some 3) (List.map eapi_Edge ([] : List api_Edge))), (4, .mp (eM D.str (D.int .i64) r4.2.at_))], 5⟩ ?_ ?_
  ·
   iterate 3 refine q1 _ ?_
   refine stepW (v := .loc 5 0 r3.length) (σ' := (upd (stab [(0, .var [.d (eL none (eL none (D.int .u16)) []), vl0 []]), (1, .var [.loc 3 0 (([] : List (List Int)).length), .loc 4 0 (([] : List api_Edge).length), .mref 2]), (2, .mp (eM D.str (D.int .i64) ([] : List (ByteArray × Int)))), (3, .lst false none (List.map (eL none (D.int .u16)) ([] : List (List Int)))), (4, .lst false (some 3) (List.map eapi_Edge ([] : List api_Edge)))]) 5 (some (.lst false none (List.map (D.int .u16) r3))))) (n' := 6) (SCall.lift [] (SCall.frz (c_slices_Clone_uint16 hr3)) (show 0 ≤ 1 by decide) (by decide) (show ∀ i ∈ [], i < 5 by decide) (dom_c (show 0 < 1 by decide) dom_n) (VNs.c (.d _) VNs.nil0) SN.nil0) (show 5 ≤ 6 by decide) ?_
   refine stepW (v := vi r4.1) (σ' := (upd (upd (upd (upd (upd (upd (upd (upd (upd (stab [(0, .var [.d (eL none (eL none (D.int .u16)) []), vl0 []]), (1, .var [.loc 3 0 (([] : List (List Int)).length), .loc 4 0 (([] : List api_Edge).length), .mref 2]), (2, .mp (eM D.str (D.int .i64) ([] : List (ByteArray × Int)))), (3, .lst false none (List.map (eL none (D.int .u16)) ([] : List (List Int)))), (4, .lst false (some 3) (List.map eapi_Edge ([] : List api_Edge)))]) 5 (some (.lst false none (List.map (D.int .u16) r3)))) 2 none) 4 none) 3 none) 1 none) 6 (some (.lst false none (List.map (eL none (D.int .u16)) r4.2.s.States)))) 2 (some (.mp (eM D.str (D.int .i64) r4.2.at_)))) 4 (some (.lst false (some 3) (List.map eapi_Edge ([] : List api_Edge))))) 1 (some (.var [.loc 6 0 r4.2.s.States.length, .loc 4 0 (([] : List api_Edge).length), .mref 2])))) (n' := 7) (SCall.sees (SCall.lift [1, 3, 4, 2] (c_space_explorer_place hr4) (show 4 ≤ 5 by decide) (by decide) (show ∀ i ∈ [1, 3, 4, 2], i < 6 by decide) (dom_c (show 0 < 5 by decide) (dom_c (show 2 < 5 by decide) (dom_c (show 3 < 5 by decide) (dom_c (show 4 < 5 by decide) dom_n)))) (VNs.c (.pt 0) (VNs.c (.d _) VNs.nil0)) (SN.c (show 0 < 4 by decide) rfl (.vars (VNs.c (.lc 1) (VNs.c (.lc 2) (VNs.c (.mref 3 (show 3 < 4 by decide)) VNs.nil0)))) (SN.c (show 1 < 4 by decide) rfl (.lst _ _ _) (SN.c (show 2 < 4 by decide) rfl (.lst _ _ _) (SN.c (show 3 < 4 by decide) rfl (.mp _) SN.nil0))))) ⟨.inl rfl, ⟨.inr ⟨_, (va_l (xs := r3) (e := (D.int .u16)) rfl rfl), rfl⟩, trivial⟩⟩) (show 6 ≤ 7 by decide) ?_
   exact RunOps.nil' (nm [0, 1, 6, 4, 2] ⟨.d _, .pt 0, .pt 1, trivial⟩ ⟨⟨show 0 < 5 by decide, _, rfl, .vars ⟨.d _, .d _, trivial⟩⟩, ⟨show 1 < 5 by decide, _, rfl, .vars ⟨.lc 2, .lc 3, .mref 4 (show 4 < 5 by decide), trivial⟩⟩, ⟨show 2 < 5 by decide, _, rfl, .lst _ _ _⟩, ⟨show 3 < 5 by decide, _, rfl, .lst _ _ _⟩, ⟨show 4 < 5 by decide, _, rfl, .mp _⟩, trivial⟩)
  refine NWp.seq ?_
  refine NWp.opsJ ⟨tab [(1, vp2 a0), (2, .ptr 0 0 0), (5, .ptr 1 0 0), (6, vi 0)], stab [(0, .var [.d (eL none (eL none (D.int .u16)) []), vl0 []]), (1, .var [.loc 2 0 r4.2.s.States.length, .loc 3 0 (([] : List api_Edge).length), .mref 4]), (2, .lst false none (List.map (eL none (D.int .u16)) r4.2.s.States)), (3, .lst false (some 3) (List.map eapi_Edge ([] : List api_Edge))), (4, .mp (eM D.str (D.int .i64) r4.2.at_))], 5⟩ ?_ ?_
  ·
   refine q1 _ ?_
   exact RunOps.nil' (nm [0, 1, 2, 3, 4] ⟨.d _, .pt 0, .pt 1, .d _, trivial⟩ ⟨⟨show 0 < 5 by decide, _, rfl, .vars ⟨.d _, .d _, trivial⟩⟩, ⟨show 1 < 5 by decide, _, rfl, .vars ⟨.lc 2, .lc 3, .mref 4 (show 4 < 5 by decide), trivial⟩⟩, ⟨show 2 < 5 by decide, _, rfl, .lst _ _ _⟩, ⟨show 3 < 5 by decide, _, rfl, .lst _ _ _⟩, ⟨show 4 < 5 by decide, _, rfl, .mp _⟩, trivial⟩)
  obtain ⟨q46, hl, h⟩ := bindE h
  refine NWp.block ?_
  refine loop_whR (fun (qq : ((List (List Int)) × (List api_Edge) × (List (ByteArray × Int)) × Int)) => ⟨tab [(1, vp2 a0), (2, .ptr 0 0 0), (5, .ptr 1 0 0), (6, vi qq.2.2.2)], stab [(0, .var [.d (eL none (eL none (D.int .u16)) []), vl0 []]), (1, .var [.loc 2 0 qq.1.length, .loc 3 0 qq.2.1.length, .mref 4]), (2, .lst false none (List.map (eL none (D.int .u16)) qq.1)), (3, .lst false (some 3) (List.map eapi_Edge qq.2.1)), (4, .mp (eM D.str (D.int .i64) qq.2.2.1))], 5⟩) 0 (fun (qq : ((List (List Int)) × (List api_Edge) × (List (ByteArray × Int)) × Int)) => ⟨tab [(2, .ptr 0 0 0), (5, .ptr 1 0 0)], stab [(0, .var [.d (eL none (eL none (D.int .u16)) []), vl0 []]), (1, .var [.loc 2 0 qq.1.length, .loc 3 0 qq.2.1.length, .mref 4]), (2, .lst false none (List.map (eL none (D.int .u16)) qq.1)), (3, .lst false (some 3) (List.map eapi_Edge qq.2.1)), (4, .mp (eM D.str (D.int .i64) qq.2.2.1))], 5⟩) (r := r) hl ?_ ?_ ?_
  ·
   rintro ⟨l5, l6, m7, i8⟩ xr9 h
   show NWp _ _ _ _ _ ⟨tab [(1, vp2 a0), (2, .ptr 0 0 0), (5, .ptr 1 0 0), (6, vi i8)], stab [(0, .var [.d (eL none (eL none (D.int .u16)) []), vl0 []]), (1, .var [.loc 2 0 l5.length, .loc 3 0 l6.length, .mref 4]), (2, .lst false none (List.map (eL none (D.int .u16)) l5)), (3, .lst false (some 3) (List.map eapi_Edge l6)), (4, .mp (eM D.str (D.int .i64) m7))], 5⟩
   refine NWp.seq ?_
   refine NWp.opsJ ⟨tab [(1, vp2 a0), (2, .ptr 0 0 0), (5, .ptr 1 0 0), (6, vi i8), (32, vb (decide (i8 < (l5.length : Int))))], stab [(0, .var [.d (eL none (eL none (D.int .u16)) []), vl0 []]), (1, .var [.loc 2 0 l5.length, .loc 3 0 l6.length, .mref 4]), (2, .lst false none (List.map (eL none (D.int .u16)) l5)), (3, .lst false (some 3) (List.map eapi_Edge l6)), (4, .mp (eM D.str (D.int .i64) m7))], 5⟩ ?_ ?_
   ·
    iterate 8 refine q1 _ ?_
    exact RunOps.nil' (nm [0, 1, 2, 3, 4] ⟨.d _, .pt 0, .pt 1, .d _, .d _, trivial⟩ ⟨⟨show 0 < 5 by decide, _, rfl, .vars ⟨.d _, .d _, trivial⟩⟩, ⟨show 1 < 5 by decide, _, rfl, .vars ⟨.lc 2, .lc 3, .mref 4 (show 4 < 5 by decide), trivial⟩⟩, ⟨show 2 < 5 by decide, _, rfl, .lst _ _ _⟩, ⟨show 3 < 5 by decide, _, rfl, .lst _ _ _⟩, ⟨show 4 < 5 by decide, _, rfl, .mp _⟩, trivial⟩)
   by_cases hc10 : decide (i8 < (l5.length : Int)) = true
   ·
    replace h := iteT hc10 h
    refine NWp.condT (t := decide (i8 < (l5.length : Int))) rfl hc10 ?_
    refine NWp.skip ?_
    refine NWp.seq ?_
    refine NWp.block ?_
    refine NWp.opsJ ⟨tab [(1, vp2 a0), (2, .ptr 0 0 0), (5, .ptr 1 0 0), (6, vi i8), (36, vl4 a0.Rules), (37, vi (a0.Rules.length : Int)), (38, vi 0)], stab [(0, .var [.d (eL none (eL none (D.int .u16)) []), vl0 []]), (1, .var [.loc 2 0 l5.length, .loc 3 0 l6.length, .mref 4]), (2, .lst false none (List.map (eL none (D.int .u16)) l5)), (3, .lst false (some 3) (List.map eapi_Edge l6)), (4, .mp (eM D.str (D.int .i64) m7))], 5⟩ ?_ ?_
    ·
     iterate 2 refine q1 _ ?_
     refine step (v := vi (a0.Rules.length : Int)) (st_len (xs := a0.Rules) (e := eapi_Rule) rfl) ?_
     refine q1 _ ?_
     exact RunOps.nil' (nm [0, 1, 2, 3, 4] ⟨.d _, .pt 0, .pt 1, .d _, .d _, .d _, .d _, trivial⟩ ⟨⟨show 0 < 5 by decide, _, rfl, .vars ⟨.d _, .d _, trivial⟩⟩, ⟨show 1 < 5 by decide, _, rfl, .vars ⟨.lc 2, .lc 3, .mref 4 (show 4 < 5 by decide), trivial⟩⟩, ⟨show 2 < 5 by decide, _, rfl, .lst _ _ _⟩, ⟨show 3 < 5 by decide, _, rfl, .lst _ _ _⟩, ⟨show 4 < 5 by decide, _, rfl, .mp _⟩, trivial⟩)
    obtain ⟨q39, hl, h⟩ := bindE h
    refine NWp.block ?_
    refine loop_forR (cntU (a0.Rules.length : Int)) (fun (i14 : Int) (qq : ((List (List Int)) × (List api_Edge) × (List (ByteArray × Int)))) => ⟨tab [(1, vp2 a0), (2, .ptr 0 0 0), (5, .ptr 1 0 0), (6, vi i8), (36, vl4 a0.Rules), (37, vi (a0.Rules.length : Int)), (38, vi i14)], stab [(0, .var [.d (eL none (eL none (D.int .u16)) []), vl0 []]), (1, .var [.loc 2 0 qq.1.length, .loc 3 0 qq.2.1.length, .mref 4]), (2, .lst false none (List.map (eL none (D.int .u16)) qq.1)), (3, .lst false (some 3) (List.map eapi_Edge qq.2.1)), (4, .mp (eM D.str (D.int .i64) qq.2.2))], 5⟩) 2 (fun (qq : ((List (List Int)) × (List api_Edge) × (List (ByteArray × Int)))) => ⟨tab [(1, vp2 a0), (2, .ptr 0 0 0), (5, .ptr 1 0 0), (6, vi i8)], stab [(0, .var [.d (eL none (eL none (D.int .u16)) []), vl0 []]), (1, .var [.loc 2 0 qq.1.length, .loc 3 0 qq.2.1.length, .mref 4]), (2, .lst false none (List.map (eL none (D.int .u16)) qq.1)), (3, .lst false (some 3) (List.map eapi_Edge qq.2.1)), (4, .mp (eM D.str (D.int .i64) qq.2.2))], 5⟩) Low low_step (r := xr9) hl (by unfold Low; omega) ?_ ?_ ?_ ?_
    ·
     rintro i14 ⟨l11, l12, m13⟩ xr19 hinv17 hgo16 h
     show NWp _ _ _ _ _ ⟨tab [(1, vp2 a0), (2, .ptr 0 0 0), (5, .ptr 1 0 0), (6, vi i8), (36, vl4 a0.Rules), (37, vi (a0.Rules.length : Int)), (38, vi i14)], stab [(0, .var [.d (eL none (eL none (D.int .u16)) []), vl0 []]), (1, .var [.loc 2 0 l11.length, .loc 3 0 l12.length, .mref 4]), (2, .lst false none (List.map (eL none (D.int .u16)) l11)), (3, .lst false (some 3) (List.map eapi_Edge l12)), (4, .mp (eM D.str (D.int .i64) m13))], 5⟩
     have hc18 : decide (i14 < (a0.Rules.length : Int)) = true := decide_eq_true hgo16
     refine NWp.opsJ ⟨tab [(1, vp2 a0), (2, .ptr 0 0 0), (5, .ptr 1 0 0), (6, vi i8), (36, vl4 a0.Rules), (37, vi (a0.Rules.length : Int)), (38, vi i14), (39, vb (decide (i14 < (a0.Rules.length : Int))))], stab [(0, .var [.d (eL none (eL none (D.int .u16)) []), vl0 []]), (1, .var [.loc 2 0 l11.length, .loc 3 0 l12.length, .mref 4]), (2, .lst false none (List.map (eL none (D.int .u16)) l11)), (3, .lst false (some 3) (List.map eapi_Edge l12)), (4, .mp (eM D.str (D.int .i64) m13))], 5⟩ ?_ ?_
     ·
      refine q1 _ ?_
      exact RunOps.nil' (nm [0, 1, 2, 3, 4] ⟨.d _, .pt 0, .pt 1, .d _, .d _, .d _, .d _, .d _, trivial⟩ ⟨⟨show 0 < 5 by decide, _, rfl, .vars ⟨.d _, .d _, trivial⟩⟩, ⟨show 1 < 5 by decide, _, rfl, .vars ⟨.lc 2, .lc 3, .mref 4 (show 4 < 5 by decide), trivial⟩⟩, ⟨show 2 < 5 by decide, _, rfl, .lst _ _ _⟩, ⟨show 3 < 5 by decide, _, rfl, .lst _ _ _⟩, ⟨show 4 < 5 by decide, _, rfl, .mp _⟩, trivial⟩)
     refine NWp.rng 37 rfl fun hB15 => ?_
     refine NWp.seq ?_
     refine NWp.condT (t := decide (i14 < (a0.Rules.length : Int))) rfl hc18 ?_
     refine NWp.skip ?_
     obtain ⟨q35, hv, h⟩ := bindE h
     refine NWp.seqS (fun (qq : ((List (List Int)) × (List api_Edge) × (List (ByteArray × Int)))) => ⟨tab [(1, vp2 a0), (2, .ptr 0 0 0), (5, .ptr 1 0 0), (6, vi i8), (36, vl4 a0.Rules), (37, vi (a0.Rules.length : Int)), (38, vi i14)], stab [(0, .var [.d (eL none (eL none (D.int .u16)) []), vl0 []]), (1, .var [.loc 2 0 qq.1.length, .loc 3 0 qq.2.1.length, .mref 4]), (2, .lst false none (List.map (eL none (D.int .u16)) qq.1)), (3, .lst false (some 3) (List.map eapi_Edge qq.2.1)), (4, .mp (eM D.str (D.int .i64) qq.2.2))], 5⟩) (xv := q35) (r := xr19) ?_ ?_ ?_
     ·
      replace h := hv
      refine NWp.block ?_
      obtain ⟨x20, hx20, h⟩ := bindE h
      refine NWp.opsJ ⟨tab [(1, vp2 a0), (2, .ptr 0 0 0), (5, .ptr 1 0 0), (6, vi i8), (7, vi i14), (8, .ptr 5 0 0), (36, vl4 a0.Rules), (37, vi (a0.Rules.length : Int)), (38, vi i14)], stab [(0, .var [.d (eL none (eL none (D.int .u16)) []), vl0 []]), (1, .var [.loc 2 0 l11.length, .loc 3 0 l12.length, .mref 4]), (2, .lst false none (List.map (eL none (D.int .u16)) l11)), (3, .lst false (some 3) (List.map eapi_Edge l12)), (4, .mp (eM D.str (D.int .i64) m13)), (5, bv0 x20)], 6⟩ ?_ ?_
      ·
       refine q1 _ ?_
       refine step (v := vp3 x20) (st_iaddr (xs := a0.Rules) (e := eapi_Rule) hx20 rfl rfl) ?_
       refine q1 _ ?_
       refine step (v := .ptr 5 0 0) (σ' := (upd (stab [(0, .var [.d (eL none (eL none (D.int .u16)) []), vl0 []]), (1, .var [.loc 2 0 l11.length, .loc 3 0 l12.length, .mref 4]), (2, .lst false none (List.map (eL none (D.int .u16)) l11)), (3, .lst false (some 3) (List.map eapi_Edge l12)), (4, .mp (eM D.str (D.int .i64) m13))]) 5 (some (.var [vl2 [], vl2 [], vl2 []])))) (n' := 6) rfl ?_
       refine q1 _ ?_
       refine step (v := V.undef) (σ' := (upd (upd (stab [(0, .var [.d (eL none (eL none (D.int .u16)) []), vl0 []]), (1, .var [.loc 2 0 l11.length, .loc 3 0 l12.length, .mref 4]), (2, .lst false none (List.map (eL none (D.int .u16)) l11)), (3, .lst false (some 3) (List.map eapi_Edge l12)), (4, .mp (eM D.str (D.int .i64) m13))]) 5 (some (.var [vl2 [], vl2 [], vl2 []]))) 5 (some (bv0 x20)))) (n' := 6) rfl ?_
       exact RunOps.nil' (nm [0, 1, 2, 3, 4, 5] ⟨.d _, .pt 0, .pt 1, .d _, .d _, .pt 5, .d _, .d _, .d _, trivial⟩ ⟨⟨show 0 < 6 by decide, _, rfl, .vars ⟨.d _, .d _, trivial⟩⟩, ⟨show 1 < 6 by decide, _, rfl, .vars ⟨.lc 2, .lc 3, .mref 4 (show 4 < 6 by decide), trivial⟩⟩, ⟨show 2 < 6 by decide, _, rfl, .lst _ _ _⟩, ⟨show 3 < 6 by decide, _, rfl, .lst _ _ _⟩, ⟨show 4 < 6 by decide, _, rfl, .mp _⟩, ⟨show 5 < 6 by decide, _, rfl, .vars ⟨.d _, .d _, .d _, trivial⟩⟩, trivial⟩)
      obtain ⟨x21, hx21, h⟩ := bindE h
      refine NWp.opsJ ⟨tab [(1, vp2 a0), (2, .ptr 0 0 0), (5, .ptr 1 0 0), (6, vi i8), (7, vi i14), (8, .ptr 5 0 0), (9, vl1 x21), (36, vl4 a0.Rules), (37, vi (a0.Rules.length : Int)), (38, vi i14)], stab [(0, .var [.d (eL none (eL none (D.int .u16)) []), vl0 []]), (1, .var [.loc 2 0 l11.length, .loc 3 0 l12.length, .mref 4]), (2, .lst false none (List.map (eL none (D.int .u16)) l11)), (3, .lst false (some 3) (List.map eapi_Edge l12)), (4, .mp (eM D.str (D.int .i64) m13)), (5, bv0 x20)], 6⟩ ?_ ?_
      ·
       iterate 6 refine q1 _ ?_
       refine step (v := .ptr 2 i8.toNat 0) (st_iaddrL (xs := l11) (e := (eL none (D.int .u16))) hx21 rfl rfl rfl rfl) ?_
       refine step (v := vl1 x21) (st_loadL (xs := l11) (e := (eL none (D.int .u16))) hx21 rfl rfl rfl) ?_
       refine q1 _ ?_
       exact RunOps.nil' (nm [0, 1, 2, 3, 4, 5] ⟨.d _, .pt 0, .pt 1, .d _, .d _, .pt 5, .d _, .d _, .d _, .d _, trivial⟩ ⟨⟨show 0 < 6 by decide, _, rfl, .vars ⟨.d _, .d _, trivial⟩⟩, ⟨show 1 < 6 by decide, _, rfl, .vars ⟨.lc 2, .lc 3, .mref 4 (show 4 < 6 by decide), trivial⟩⟩, ⟨show 2 < 6 by decide, _, rfl, .lst _ _ _⟩, ⟨show 3 < 6 by decide, _, rfl, .lst _ _ _⟩, ⟨show 4 < 6 by decide, _, rfl, .mp _⟩, ⟨show 5 < 6 by decide, _, rfl, .vars ⟨.d _, .d _, .d _, trivial⟩⟩, trivial⟩)
      obtain ⟨r22, hr22, h⟩ := bindE h
      refine NWp.opsJ ⟨tab [(1, vp2 a0), (2, .ptr 0 0 0), (5, .ptr 1 0 0), (6, vi i8), (7, vi i14), (8, .ptr 5 0 0), (9, vl1 x21), (10, vl1 r22), (36, vl4 a0.Rules), (37, vi (a0.Rules.length : Int)), (38, vi i14)], stab [(0, .var [.d (eL none (eL none (D.int .u16)) []), vl0 []]), (1, .var [.loc 2 0 l11.length, .loc 3 0 l12.length, .mref 4]), (2, .lst false none (List.map (eL none (D.int .u16)) l11)), (3, .lst false (some 3) (List.map eapi_Edge l12)), (4, .mp (eM D.str (D.int .i64) m13)), (5, bv0 x20)], 6⟩ ?_ ?_
      ·
       refine step (v := vs4 x20) (st_ldV (ds := [eL (some 2) eapi_Pair x20.When, eL (some 2) eapi_Pair x20.Guard, eL (some 2) eapi_Pair x20.Then]) rfl rfl (show 3 ≤ 3 by decide) rfl) ?_
       refine q1 _ ?_
       refine stepC (r := eL none (D.int .u16) r22) (ArgsOk.dt (ArgsOk.dt ArgsOk.nil')) (c_space_After hr22) ?_
       refine q1 _ ?_
       exact RunOps.nil' (nm [0, 1, 2, 3, 4, 5] ⟨.d _, .pt 0, .pt 1, .d _, .d _, .pt 5, .d _, .d _, .d _, .d _, .d _, trivial⟩ ⟨⟨show 0 < 6 by decide, _, rfl, .vars ⟨.d _, .d _, trivial⟩⟩, ⟨show 1 < 6 by decide, _, rfl, .vars ⟨.lc 2, .lc 3, .mref 4 (show 4 < 6 by decide), trivial⟩⟩, ⟨show 2 < 6 by decide, _, rfl, .lst _ _ _⟩, ⟨show 3 < 6 by decide, _, rfl, .lst _ _ _⟩, ⟨show 4 < 6 by decide, _, rfl, .mp _⟩, ⟨show 5 < 6 by decide, _, rfl, .vars ⟨.d _, .d _, .d _, trivial⟩⟩, trivial⟩)
      refine NWp.seq ?_
      obtain ⟨r23, hr23, h⟩ := bindE h
      obtain ⟨y26, hv, h⟩ := bindE h
      refine NWp.opsJ ⟨tab [(1, vp2 a0), (2, .ptr 0 0 0), (5, .ptr 1 0 0), (6, vi i8), (7, vi i14), (10, vl1 r22), (36, vl4 a0.Rules), (37, vi (a0.Rules.length : Int)), (38, vi i14), (62, vb y26)], stab [(0, .var [.d (eL none (eL none (D.int .u16)) []), vl0 []]), (1, .var [.loc 2 0 l11.length, .loc 3 0 l12.length, .mref 4]), (2, .lst false none (List.map (eL none (D.int .u16)) l11)), (3, .lst false (some 3) (List.map eapi_Edge l12)), (4, .mp (eM D.str (D.int .i64) m13))], 5⟩ ?_ ?_
      ·
       refine step (v := vs4 x20) (st_ldV (ds := [eL (some 2) eapi_Pair x20.When, eL (some 2) eapi_Pair x20.Guard, eL (some 2) eapi_Pair x20.Then]) rfl rfl (show 3 ≤ 3 by decide) rfl) ?_
       refine q1 _ ?_
       refine stepC (r := .bool r23) (ArgsOk.dt (ArgsOk.dt ArgsOk.nil')) (c_space_Goes hr23) ?_
       iterate 2 refine q1 _ ?_
       by_cases hg24 : (!r23) = true
       ·
        replace hv := iteT hg24 hv
        iterate 3 refine qX (!r23) (by rw [hg24]; decide) ?_
        refine step (v := vb true) (st_pickT (b := (!r23)) rfl hg24 rfl) ?_
        have hh := Option.some.inj hv
        subst hh
        exact RunOps.nil' (nm [0, 1, 2, 3, 4] ⟨.d _, .pt 0, .pt 1, .d _, .d _, .d _, .d _, .d _, .d _, .d _, trivial⟩ ⟨⟨show 0 < 5 by decide, _, rfl, .vars ⟨.d _, .d _, trivial⟩⟩, ⟨show 1 < 5 by decide, _, rfl, .vars ⟨.lc 2, .lc 3, .mref 4 (show 4 < 5 by decide), trivial⟩⟩, ⟨show 2 < 5 by decide, _, rfl, .lst _ _ _⟩, ⟨show 3 < 5 by decide, _, rfl, .lst _ _ _⟩, ⟨show 4 < 5 by decide, _, rfl, .mp _⟩, trivial⟩)
       ·
        replace hv := iteF hg24 hv
        obtain ⟨r25, hr25, hv⟩ := bindE hv
        refine qG (!r23) (Bool.eq_false_iff.2 hg24) ?_
        refine q1 _ ?_
        refine qG (!r23) (Bool.eq_false_iff.2 hg24) ?_
        refine q1 _ ?_
        refine qG (!r23) (Bool.eq_false_iff.2 hg24) ?_
        refine stepC (r := .bool r25) (ArgsOk.dt (ArgsOk.dt ArgsOk.nil')) (c_slices_Equal_uint16 hr25) ?_
        refine step (v := vb r25) (st_pickF (b := (!r23)) rfl hg24 rfl) ?_
        have hh := Option.some.inj hv
        subst hh
        exact RunOps.nil' (nm [0, 1, 2, 3, 4] ⟨.d _, .pt 0, .pt 1, .d _, .d _, .d _, .d _, .d _, .d _, .d _, trivial⟩ ⟨⟨show 0 < 5 by decide, _, rfl, .vars ⟨.d _, .d _, trivial⟩⟩, ⟨show 1 < 5 by decide, _, rfl, .vars ⟨.lc 2, .lc 3, .mref 4 (show 4 < 5 by decide), trivial⟩⟩, ⟨show 2 < 5 by decide, _, rfl, .lst _ _ _⟩, ⟨show 3 < 5 by decide, _, rfl, .lst _ _ _⟩, ⟨show 4 < 5 by decide, _, rfl, .mp _⟩, trivial⟩)
      by_cases hc28 : y26 = true
      ·
       replace h := iteT hc28 h
       refine NWp.condT (t := y26) rfl hc28 ?_
       have hh := Option.some.inj h
       subst hh
       refine NWp.norm (s0 := ⟨tab [(1, vp2 a0), (2, .ptr 0 0 0), (5, .ptr 1 0 0), (6, vi i8), (36, vl4 a0.Rules), (37, vi (a0.Rules.length : Int)), (38, vi i14)], stab [(0, .var [.d (eL none (eL none (D.int .u16)) []), vl0 []]), (1, .var [.loc 2 0 l11.length, .loc 3 0 l12.length, .mref 4]), (2, .lst false none (List.map (eL none (D.int .u16)) l11)), (3, .lst false (some 3) (List.map eapi_Edge l12)), (4, .mp (eM D.str (D.int .i64) m13))], 5⟩) (nm [0, 1, 2, 3, 4] ⟨.d _, .pt 0, .pt 1, .d _, .d _, .d _, .d _, trivial⟩ ⟨⟨show 0 < 5 by decide, _, rfl, .vars ⟨.d _, .d _, trivial⟩⟩, ⟨show 1 < 5 by decide, _, rfl, .vars ⟨.lc 2, .lc 3, .mref 4 (show 4 < 5 by decide), trivial⟩⟩, ⟨show 2 < 5 by decide, _, rfl, .lst _ _ _⟩, ⟨show 3 < 5 by decide, _, rfl, .lst _ _ _⟩, ⟨show 4 < 5 by decide, _, rfl, .mp _⟩, trivial⟩) ?_
       refine NWp.exit ?_
       exact And.intro rfl rfl
      ·
       replace h := iteF hc28 h
       refine NWp.condF (t := y26) rfl hc28 ?_
       refine NWp.skip ?_
       obtain ⟨r29, hr29, h⟩ := bindE h
       obtain ⟨l30, hl30, h⟩ := bindE h
       refine NWp.opsSJ ⟨tab [(1, vp2 a0), (2, .ptr 0 0 0), (5, .ptr 1 0 0), (6, vi i8), (36, vl4 a0.Rules), (37, vi (a0.Rules.length : Int)), (38, vi i14)], stab [(0, .var [.d (eL none (eL none (D.int .u16)) []), vl0 []]), (1, .var [.loc 2 0 r29.2.s.States.length, .loc 3 0 l30.length, .mref 4]), (2, .lst false none (List.map (eL none (D.int .u16)) r29.2.s.States)), (3, .lst false (some 3) (List.map eapi_Edge l30)), (4, .mp (eM D.str (D.int .i64) r29.2.at_))], 5⟩ ?_ ?_
       ·
        refine stepL [] [] (v := .ptr 1 0 0) rfl rfl rfl ?_
        refine stepL [] [] (v := .ptr 1 0 0) rfl rfl rfl ?_
        refine stepL [] [] (v := .ptr 1 0 0) rfl rfl rfl ?_
        refine stepL [] [] (v := .ptr 1 0 0) rfl rfl rfl ?_
        refine stepL [] [] (v := .ptr 1 0 1) rfl rfl rfl ?_
        refine stepLV (1, 0, 1) (v := .loc 3 0 l12.length) rfl rfl ?_
        refine stepL [] [] (v := vi i8) rfl rfl rfl ?_
        refine stepL [] [] (v := vi i14) rfl rfl rfl ?_
        refine stepL [] [] (v := .ptr 1 0 0) rfl rfl rfl ?_
        refine stepL [] [] (v := vl1 r22) rfl rfl rfl ?_
        refine stepLNK [(1, 0, 1)] (σ' := (upd (upd (upd (upd (upd (upd (upd (upd (stab [(0, .var [.d (eL none (eL none (D.int .u16)) []), vl0 []]), (1, .var [.loc 2 0 l11.length, .loc 3 0 l12.length, .mref 4]), (2, .lst false none (List.map (eL none (D.int .u16)) l11)), (3, .lst false (some 3) (List.map eapi_Edge l12)), (4, .mp (eM D.str (D.int .i64) m13))]) 4 none) 3 none) 2 none) 1 none) 5 (some (.lst false none (List.map (eL none (D.int .u16)) r29.2.s.States)))) 4 (some (.mp (eM D.str (D.int .i64) r29.2.at_)))) 3 (some (.lst false (some 3) (List.map eapi_Edge l12)))) 1 (some (.var [.loc 5 0 r29.2.s.States.length, .loc 3 0 l12.length, .mref 4])))) (R := [1, 2, 3, 4]) (W := [1, 2, 3, 4]) (m := 6) (SCall.footN [1, 2, 3, 4] (c_space_explorer_place hr29) (by decide) (by decide) (by decide) (dom_c (show 0 < 5 by decide) (dom_c (show 2 < 5 by decide) (dom_c (show 3 < 5 by decide) (dom_c (show 4 < 5 by decide) dom_n)))) [(1, .var [.loc 2 0 l11.length, .loc 3 0 l12.length, .mref 4]), (2, .lst false none (List.map (eL none (D.int .u16)) l11)), (3, .lst false (some 3) (List.map eapi_Edge l12)), (4, .mp (eM D.str (D.int .i64) m13))] rfl (VNs.c (.pt 0) (VNs.c (.d _) VNs.nil0)) (SN.c (show 0 < 4 by decide) rfl (.vars (VNs.c (.lc 1) (VNs.c (.lc 2) (VNs.c (.mref 3 (show 3 < 4 by decide)) VNs.nil0)))) (SN.c (show 1 < 4 by decide) rfl (.lst _ _ _) (SN.c (show 2 < 4 by decide) rfl (.lst _ _ _) (SN.c (show 3 < 4 by decide) rfl (.mp _) SN.nil0)))) (vi r29.1) rfl [(4, none), (3, none), (2, none), (1, none), (5, some (.lst false none (List.map (eL none (D.int .u16)) r29.2.s.States))), (4, some (.mp (eM D.str (D.int .i64) r29.2.at_))), (3, some (.lst false (some 3) (List.map eapi_Edge l12))), (1, some (.var [.loc 5 0 r29.2.s.States.length, .loc 3 0 l12.length, .mref 4]))] [1, 2, 3, 4] 6 rfl rfl rfl rfl (fun _ => rfl)) ⟨rfl, rfl, rfl, rfl, trivial⟩ rfl rfl ⟨fun _ => rfl, trivial⟩ rfl ?_
        refine stepL [] [] (v := .d (eapi_Edge (api_Edge.mk i8 i14 r29.1))) (st_build (ds := [.int .i64 i8, .int .i64 i14, .int .i64 r29.1]) rfl) rfl rfl ?_
        refine stepL [] [] (v := vl0 ([(api_Edge.mk i8 i14 r29.1)] : List api_Edge)) rfl rfl rfl ?_
        refine stepL [3] [3] (v := .loc 6 0 l30.length) (σ' := (upd (upd (upd (upd (upd (upd (upd (upd (upd (upd (stab [(0, .var [.d (eL none (eL none (D.int .u16)) []), vl0 []]), (1, .var [.loc 2 0 l11.length, .loc 3 0 l12.length, .mref 4]), (2, .lst false none (List.map (eL none (D.int .u16)) l11)), (3, .lst false (some 3) (List.map eapi_Edge l12)), (4, .mp (eM D.str (D.int .i64) m13))]) 4 none) 3 none) 2 none) 1 none) 5 (some (.lst false none (List.map (eL none (D.int .u16)) r29.2.s.States)))) 4 (some (.mp (eM D.str (D.int .i64) r29.2.at_)))) 3 (some (.lst false (some 3) (List.map eapi_Edge l12)))) 1 (some (.var [.loc 5 0 r29.2.s.States.length, .loc 3 0 l12.length, .mref 4]))) 3 none) 6 (some (.lst false (some 3) (List.map eapi_Edge l30))))) (n' := 7) (st_app (xs := l12) (ys := ([(api_Edge.mk i8 i14 r29.1)] : List api_Edge)) (e := eapi_Edge) hl30 rfl rfl rfl (src_v (xs := ([(api_Edge.mk i8 i14 r29.1)] : List api_Edge)) (e := eapi_Edge) rfl)) rfl rfl ?_
        refine stepL [] [] (v := .ptr 1 0 0) rfl rfl rfl ?_
        refine stepL [] [] (v := .ptr 1 0 0) rfl rfl rfl ?_
        refine stepL [] [] (v := .ptr 1 0 1) rfl rfl rfl ?_
        refine stepL [1] [1] (v := V.undef) (σ' := (upd (upd (upd (upd (upd (upd (upd (upd (upd (upd (upd (stab [(0, .var [.d (eL none (eL none (D.int .u16)) []), vl0 []]), (1, .var [.loc 2 0 l11.length, .loc 3 0 l12.length, .mref 4]), (2, .lst false none (List.map (eL none (D.int .u16)) l11)), (3, .lst false (some 3) (List.map eapi_Edge l12)), (4, .mp (eM D.str (D.int .i64) m13))]) 4 none) 3 none) 2 none) 1 none) 5 (some (.lst false none (List.map (eL none (D.int .u16)) r29.2.s.States)))) 4 (some (.mp (eM D.str (D.int .i64) r29.2.at_)))) 3 (some (.lst false (some 3) (List.map eapi_Edge l12)))) 1 (some (.var [.loc 5 0 r29.2.s.States.length, .loc 3 0 l12.length, .mref 4]))) 3 none) 6 (some (.lst false (some 3) (List.map eapi_Edge l30)))) 1 (some (.var [.loc 5 0 r29.2.s.States.length, .loc 6 0 l30.length, .mref 4])))) (n' := 7) rfl rfl rfl ?_
        exact RunOpsL.nil' ⟨by decide, nm [0, 1, 5, 6, 4] ⟨.d _, .pt 0, .pt 1, .d _, .d _, .d _, .d _, trivial⟩ ⟨⟨show 0 < 5 by decide, _, rfl, .vars ⟨.d _, .d _, trivial⟩⟩, ⟨show 1 < 5 by decide, _, rfl, .vars ⟨.lc 2, .lc 3, .mref 4 (show 4 < 5 by decide), trivial⟩⟩, ⟨show 2 < 5 by decide, _, rfl, .lst _ _ _⟩, ⟨show 3 < 5 by decide, _, rfl, .lst _ _ _⟩, ⟨show 4 < 5 by decide, _, rfl, .mp _⟩, trivial⟩⟩
       refine NWp.opsJ ⟨tab [(1, vp2 a0), (2, .ptr 0 0 0), (5, .ptr 1 0 0), (6, vi i8), (36, vl4 a0.Rules), (37, vi (a0.Rules.length : Int)), (38, vi i14), (86, vb (decide ((r29.2.s.States.length : Int) > 128)))], stab [(0, .var [.d (eL none (eL none (D.int .u16)) []), vl0 []]), (1, .var [.loc 2 0 r29.2.s.States.length, .loc 3 0 l30.length, .mref 4]), (2, .lst false none (List.map (eL none (D.int .u16)) r29.2.s.States)), (3, .lst false (some 3) (List.map eapi_Edge l30)), (4, .mp (eM D.str (D.int .i64) r29.2.at_))], 5⟩ ?_ ?_
       ·
        iterate 7 refine q1 _ ?_
        exact RunOps.nil' (nm [0, 1, 2, 3, 4] ⟨.d _, .pt 0, .pt 1, .d _, .d _, .d _, .d _, .d _, trivial⟩ ⟨⟨show 0 < 5 by decide, _, rfl, .vars ⟨.d _, .d _, trivial⟩⟩, ⟨show 1 < 5 by decide, _, rfl, .vars ⟨.lc 2, .lc 3, .mref 4 (show 4 < 5 by decide), trivial⟩⟩, ⟨show 2 < 5 by decide, _, rfl, .lst _ _ _⟩, ⟨show 3 < 5 by decide, _, rfl, .lst _ _ _⟩, ⟨show 4 < 5 by decide, _, rfl, .mp _⟩, trivial⟩)
       by_cases hc31 : decide ((r29.2.s.States.length : Int) > 128) = true
       ·
        replace h := iteT hc31 h
        refine NWp.condT (t := decide ((r29.2.s.States.length : Int) > 128)) rfl hc31 ?_
        refine NWp.opsJ ⟨tab [(2, .ptr 0 0 0), (3, vi 21)], stab [(0, .var [.d (eL none (eL none (D.int .u16)) []), vl0 []])], 1⟩ ?_ ?_
        ·
         refine step (v := vs1 (api_Space.mk [] [])) (st_build (ds := [eL none (eL none (D.int .u16)) [], eL (some 3) eapi_Edge []]) rfl) ?_
         refine step (v := V.undef) (σ' := (upd (stab [(0, .var [.d (eL none (eL none (D.int .u16)) []), vl0 []]), (1, .var [.loc 2 0 r29.2.s.States.length, .loc 3 0 l30.length, .mref 4]), (2, .lst false none (List.map (eL none (D.int .u16)) r29.2.s.States)), (3, .lst false (some 3) (List.map eapi_Edge l30)), (4, .mp (eM D.str (D.int .i64) r29.2.at_))]) 0 (some (.var [.d (eL none (eL none (D.int .u16)) []), vl0 []])))) (n' := 5) rfl ?_
         refine q1 _ ?_
         exact nR [0]
        obtain ⟨r32, kr32, hr⟩ := mapE (o := some (Br.ret (Br.ret ((api_Space.mk [] []), 21)))) (g := Sum.inr) h
        subst hr
        have h := kr32
        obtain ⟨r33, kr33, hr⟩ := mapE (o := some (Br.ret ((api_Space.mk [] []), 21))) (g := Br.ret) h
        subst hr
        have h := kr33
        obtain ⟨r34, kr34, hr⟩ := mapE (o := some ((api_Space.mk [] []), 21)) (g := Br.ret) h
        subst hr
        have h := kr34
        have hh := Option.some.inj h
        subst hh
        refine NWp.ret ?_
        refine And.intro (fun hn => nomatch hn) ?_
        intro hq
        have hq := hq.symm
        subst hq
        refine And.intro (fun hn => nomatch hn) ?_
        intro hq
        have hq := hq.symm
        subst hq
        refine And.intro (fun hn => nomatch hn) ?_
        intro hq
        have hq := hq.symm
        subst hq
        show FQ _ _ _ _
        exact FQ.mkT (.inr rfl) (res_cell (ds := [eL none (eL none (D.int .u16)) [], eL (some 3) eapi_Edge []]) rfl rfl (show 2 ≤ 2 by decide) rfl (res_t (v := vi 21) rfl rfl)) (RV.d (RV.d trivial))
       ·
        replace h := iteF hc31 h
        refine NWp.condF (t := decide ((r29.2.s.States.length : Int) > 128)) rfl hc31 ?_
        have hh := Option.some.inj h
        subst hh
        refine NWp.norm (s0 := ⟨tab [(1, vp2 a0), (2, .ptr 0 0 0), (5, .ptr 1 0 0), (6, vi i8), (36, vl4 a0.Rules), (37, vi (a0.Rules.length : Int)), (38, vi i14)], stab [(0, .var [.d (eL none (eL none (D.int .u16)) []), vl0 []]), (1, .var [.loc 2 0 r29.2.s.States.length, .loc 3 0 l30.length, .mref 4]), (2, .lst false none (List.map (eL none (D.int .u16)) r29.2.s.States)), (3, .lst false (some 3) (List.map eapi_Edge l30)), (4, .mp (eM D.str (D.int .i64) r29.2.at_))], 5⟩) (nm [0, 1, 2, 3, 4] ⟨.d _, .pt 0, .pt 1, .d _, .d _, .d _, .d _, trivial⟩ ⟨⟨show 0 < 5 by decide, _, rfl, .vars ⟨.d _, .d _, trivial⟩⟩, ⟨show 1 < 5 by decide, _, rfl, .vars ⟨.lc 2, .lc 3, .mref 4 (show 4 < 5 by decide), trivial⟩⟩, ⟨show 2 < 5 by decide, _, rfl, .lst _ _ _⟩, ⟨show 3 < 5 by decide, _, rfl, .lst _ _ _⟩, ⟨show 4 < 5 by decide, _, rfl, .mp _⟩, trivial⟩) ?_
        refine NWp.skip ?_
        exact And.intro rfl rfl
     ·
      intro r' hq
      subst hq
      exact Option.some.inj h
     rintro ⟨l32, l33, m34⟩ rfl
     show NWp _ _ _ _ _ ⟨tab [(1, vp2 a0), (2, .ptr 0 0 0), (5, .ptr 1 0 0), (6, vi i8), (36, vl4 a0.Rules), (37, vi (a0.Rules.length : Int)), (38, vi i14)], stab [(0, .var [.d (eL none (eL none (D.int .u16)) []), vl0 []]), (1, .var [.loc 2 0 l32.length, .loc 3 0 l33.length, .mref 4]), (2, .lst false none (List.map (eL none (D.int .u16)) l32)), (3, .lst false (some 3) (List.map eapi_Edge l33)), (4, .mp (eM D.str (D.int .i64) m34))], 5⟩
     have hh := Option.some.inj h
     subst hh
     refine NWp.opsE ⟨tab [(1, vp2 a0), (2, .ptr 0 0 0), (5, .ptr 1 0 0), (6, vi i8), (36, vl4 a0.Rules), (37, vi (a0.Rules.length : Int)), (38, vi (i14 + 1))], stab [(0, .var [.d (eL none (eL none (D.int .u16)) []), vl0 []]), (1, .var [.loc 2 0 l32.length, .loc 3 0 l33.length, .mref 4]), (2, .lst false none (List.map (eL none (D.int .u16)) l32)), (3, .lst false (some 3) (List.map eapi_Edge l33)), (4, .mp (eM D.str (D.int .i64) m34))], 5⟩ ?_ ?_
     ·
      refine step (v := vi (i14 + 1)) (st_inc (inc_ok hinv17 hgo16 hB15) rfl rfl) ?_
      refine q1 _ ?_
      exact RunOps.nil' (nm [0, 1, 2, 3, 4] ⟨.d _, .pt 0, .pt 1, .d _, .d _, .d _, .d _, trivial⟩ ⟨⟨show 0 < 5 by decide, _, rfl, .vars ⟨.d _, .d _, trivial⟩⟩, ⟨show 1 < 5 by decide, _, rfl, .vars ⟨.lc 2, .lc 3, .mref 4 (show 4 < 5 by decide), trivial⟩⟩, ⟨show 2 < 5 by decide, _, rfl, .lst _ _ _⟩, ⟨show 3 < 5 by decide, _, rfl, .lst _ _ _⟩, ⟨show 4 < 5 by decide, _, rfl, .mp _⟩, trivial⟩)
     exact And.intro rfl rfl
    ·
     rintro i14 ⟨l11, l12, m13⟩ hinv17 hgo16
     show NWp _ _ _ _ _ ⟨tab [(1, vp2 a0), (2, .ptr 0 0 0), (5, .ptr 1 0 0), (6, vi i8), (36, vl4 a0.Rules), (37, vi (a0.Rules.length : Int)), (38, vi i14)], stab [(0, .var [.d (eL none (eL none (D.int .u16)) []), vl0 []]), (1, .var [.loc 2 0 l11.length, .loc 3 0 l12.length, .mref 4]), (2, .lst false none (List.map (eL none (D.int .u16)) l11)), (3, .lst false (some 3) (List.map eapi_Edge l12)), (4, .mp (eM D.str (D.int .i64) m13))], 5⟩
     have hc18 : ¬ (decide (i14 < (a0.Rules.length : Int)) = true) := fun hq => hgo16 (of_decide_eq_true hq)
     refine NWp.opsJ ⟨tab [(1, vp2 a0), (2, .ptr 0 0 0), (5, .ptr 1 0 0), (6, vi i8), (36, vl4 a0.Rules), (37, vi (a0.Rules.length : Int)), (38, vi i14), (39, vb (decide (i14 < (a0.Rules.length : Int))))], stab [(0, .var [.d (eL none (eL none (D.int .u16)) []), vl0 []]), (1, .var [.loc 2 0 l11.length, .loc 3 0 l12.length, .mref 4]), (2, .lst false none (List.map (eL none (D.int .u16)) l11)), (3, .lst false (some 3) (List.map eapi_Edge l12)), (4, .mp (eM D.str (D.int .i64) m13))], 5⟩ ?_ ?_
     ·
      refine q1 _ ?_
      exact RunOps.nil' (nm [0, 1, 2, 3, 4] ⟨.d _, .pt 0, .pt 1, .d _, .d _, .d _, .d _, .d _, trivial⟩ ⟨⟨show 0 < 5 by decide, _, rfl, .vars ⟨.d _, .d _, trivial⟩⟩, ⟨show 1 < 5 by decide, _, rfl, .vars ⟨.lc 2, .lc 3, .mref 4 (show 4 < 5 by decide), trivial⟩⟩, ⟨show 2 < 5 by decide, _, rfl, .lst _ _ _⟩, ⟨show 3 < 5 by decide, _, rfl, .lst _ _ _⟩, ⟨show 4 < 5 by decide, _, rfl, .mp _⟩, trivial⟩)
     refine NWp.seq ?_
     refine NWp.condF (t := decide (i14 < (a0.Rules.length : Int))) rfl hc18 ?_
     refine NWp.norm (s0 := ⟨tab [(1, vp2 a0), (2, .ptr 0 0 0), (5, .ptr 1 0 0), (6, vi i8)], stab [(0, .var [.d (eL none (eL none (D.int .u16)) []), vl0 []]), (1, .var [.loc 2 0 l11.length, .loc 3 0 l12.length, .mref 4]), (2, .lst false none (List.map (eL none (D.int .u16)) l11)), (3, .lst false (some 3) (List.map eapi_Edge l12)), (4, .mp (eM D.str (D.int .i64) m13))], 5⟩) (nm [0, 1, 2, 3, 4] ⟨.d _, .pt 0, .pt 1, .d _, trivial⟩ ⟨⟨show 0 < 5 by decide, _, rfl, .vars ⟨.d _, .d _, trivial⟩⟩, ⟨show 1 < 5 by decide, _, rfl, .vars ⟨.lc 2, .lc 3, .mref 4 (show 4 < 5 by decide), trivial⟩⟩, ⟨show 2 < 5 by decide, _, rfl, .lst _ _ _⟩, ⟨show 3 < 5 by decide, _, rfl, .lst _ _ _⟩, ⟨show 4 < 5 by decide, _, rfl, .mp _⟩, trivial⟩) ?_
     refine NWp.exit ?_
     exact And.intro rfl rfl
    ·
     intro r' hq
     subst hq
     exact Option.some.inj h
    rintro ⟨z36, z37, z38⟩ rfl
    have hh := Option.some.inj h
    subst hh
    refine NWp.opsE ⟨tab [(1, vp2 a0), (2, .ptr 0 0 0), (5, .ptr 1 0 0), (6, vi (IntKind.i64.wrap (i8 + 1)))], stab [(0, .var [.d (eL none (eL none (D.int .u16)) []), vl0 []]), (1, .var [.loc 2 0 z36.length, .loc 3 0 z37.length, .mref 4]), (2, .lst false none (List.map (eL none (D.int .u16)) z36)), (3, .lst false (some 3) (List.map eapi_Edge z37)), (4, .mp (eM D.str (D.int .i64) z38))], 5⟩ ?_ ?_
    ·
     iterate 3 refine q1 _ ?_
     exact RunOps.nil' (nm [0, 1, 2, 3, 4] ⟨.d _, .pt 0, .pt 1, .d _, trivial⟩ ⟨⟨show 0 < 5 by decide, _, rfl, .vars ⟨.d _, .d _, trivial⟩⟩, ⟨show 1 < 5 by decide, _, rfl, .vars ⟨.lc 2, .lc 3, .mref 4 (show 4 < 5 by decide), trivial⟩⟩, ⟨show 2 < 5 by decide, _, rfl, .lst _ _ _⟩, ⟨show 3 < 5 by decide, _, rfl, .lst _ _ _⟩, ⟨show 4 < 5 by decide, _, rfl, .mp _⟩, trivial⟩)
    exact And.intro rfl rfl
   ·
    replace h := iteF hc10 h
    refine NWp.condF (t := decide (i8 < (l5.length : Int))) rfl hc10 ?_
    have hh := Option.some.inj h
    subst hh
    refine NWp.norm (s0 := ⟨tab [(2, .ptr 0 0 0), (5, .ptr 1 0 0)], stab [(0, .var [.d (eL none (eL none (D.int .u16)) []), vl0 []]), (1, .var [.loc 2 0 l5.length, .loc 3 0 l6.length, .mref 4]), (2, .lst false none (List.map (eL none (D.int .u16)) l5)), (3, .lst false (some 3) (List.map eapi_Edge l6)), (4, .mp (eM D.str (D.int .i64) m7))], 5⟩) (nm [0, 1, 2, 3, 4] ⟨.pt 0, .pt 1, trivial⟩ ⟨⟨show 0 < 5 by decide, _, rfl, .vars ⟨.d _, .d _, trivial⟩⟩, ⟨show 1 < 5 by decide, _, rfl, .vars ⟨.lc 2, .lc 3, .mref 4 (show 4 < 5 by decide), trivial⟩⟩, ⟨show 2 < 5 by decide, _, rfl, .lst _ _ _⟩, ⟨show 3 < 5 by decide, _, rfl, .lst _ _ _⟩, ⟨show 4 < 5 by decide, _, rfl, .mp _⟩, trivial⟩) ?_
    refine NWp.exit ?_
    exact And.intro rfl rfl
  ·
   intro r' hq
   subst hq
   exact Option.some.inj h
  rintro ⟨z40, z41, z42, z43⟩ rfl
  refine NWp.seq ?_
  obtain ⟨r44, hr44, h⟩ := bindE h
  refine NWp.opsJ ⟨tab [(2, .ptr 0 0 0), (5, .ptr 1 0 0), (93, vb r44)], stab [(0, .var [.d (eL none (eL none (D.int .u16)) []), vl0 []]), (1, .var [.loc 2 0 z40.length, .loc 3 0 z41.length, .mref 4]), (2, .lst false none (List.map (eL none (D.int .u16)) z40)), (3, .lst false (some 3) (List.map eapi_Edge z41)), (4, .mp (eM D.str (D.int .i64) z42))], 5⟩ ?_ ?_
  ·
   iterate 4 refine q1 _ ?_
   refine stepC (r := .bool r44) (ArgsOk.vw (va_agg (optC (vc_l (xs := z40) (e := (eL none (D.int .u16))) rfl rfl) (optC (vc_l (xs := z41) (e := eapi_Edge) rfl rfl) optN))) (Sub.aggs (by exact ⟨.refl _, .refl _, trivial⟩)) ArgsOk.nil') (c_space_comesBack hr44) ?_
   exact RunOps.nil' (nm [0, 1, 2, 3, 4] ⟨.pt 0, .pt 1, .d _, trivial⟩ ⟨⟨show 0 < 5 by decide, _, rfl, .vars ⟨.d _, .d _, trivial⟩⟩, ⟨show 1 < 5 by decide, _, rfl, .vars ⟨.lc 2, .lc 3, .mref 4 (show 4 < 5 by decide), trivial⟩⟩, ⟨show 2 < 5 by decide, _, rfl, .lst _ _ _⟩, ⟨show 3 < 5 by decide, _, rfl, .lst _ _ _⟩, ⟨show 4 < 5 by decide, _, rfl, .mp _⟩, trivial⟩)
  by_cases hc45 : r44 = true
  ·
   replace h := iteT hc45 h
   refine NWp.condT (t := r44) rfl hc45 ?_
   refine NWp.opsJ ⟨tab [(2, .ptr 0 0 0), (3, vi 20)], stab [(0, .var [.d (eL none (eL none (D.int .u16)) []), vl0 []])], 1⟩ ?_ ?_
   ·
    refine step (v := vs1 (api_Space.mk [] [])) (st_build (ds := [eL none (eL none (D.int .u16)) [], eL (some 3) eapi_Edge []]) rfl) ?_
    refine step (v := V.undef) (σ' := (upd (stab [(0, .var [.d (eL none (eL none (D.int .u16)) []), vl0 []]), (1, .var [.loc 2 0 z40.length, .loc 3 0 z41.length, .mref 4]), (2, .lst false none (List.map (eL none (D.int .u16)) z40)), (3, .lst false (some 3) (List.map eapi_Edge z41)), (4, .mp (eM D.str (D.int .i64) z42))]) 0 (some (.var [.d (eL none (eL none (D.int .u16)) []), vl0 []])))) (n' := 5) rfl ?_
    refine q1 _ ?_
    exact nR [0]
   have hh := Option.some.inj h
   subst hh
   refine NWp.ret ?_
   show FQ _ _ _ _
   exact FQ.mkT (.inr rfl) (res_cell (ds := [eL none (eL none (D.int .u16)) [], eL (some 3) eapi_Edge []]) rfl rfl (show 2 ≤ 2 by decide) rfl (res_t (v := vi 20) rfl rfl)) (RV.d (RV.d trivial))
  ·
   replace h := iteF hc45 h
   refine NWp.condF (t := r44) rfl hc45 ?_
   refine NWp.skip ?_
   refine NWp.opsJ ⟨tab [(2, .ptr 0 0 0), (3, vi 0)], stab [(0, .var [.loc 1 0 z40.length, .loc 2 0 z41.length]), (1, .lst false none (List.map (eL none (D.int .u16)) z40)), (2, .lst false (some 3) (List.map eapi_Edge z41))], 3⟩ ?_ ?_
   ·
    iterate 4 refine q1 _ ?_
    refine step (v := V.undef) (σ' := (upd (stab [(0, .var [.d (eL none (eL none (D.int .u16)) []), vl0 []]), (1, .var [.loc 2 0 z40.length, .loc 3 0 z41.length, .mref 4]), (2, .lst false none (List.map (eL none (D.int .u16)) z40)), (3, .lst false (some 3) (List.map eapi_Edge z41)), (4, .mp (eM D.str (D.int .i64) z42))]) 0 (some (.var [.loc 2 0 z40.length, .loc 3 0 z41.length])))) (n' := 5) rfl ?_
    refine q1 _ ?_
    exact nR [0, 2, 3]
   have hh := Option.some.inj h
   subst hh
   refine NWp.ret ?_
   show FQ _ _ _ _
   exact FQ.mkT (.inr rfl) rfl (RV.agg (RV0.loc (xs := z40) (e := (eL none (D.int .u16))) rfl rfl (RV0.loc (xs := z41) (e := eapi_Edge) rfl rfl trivial)) (RV.d trivial))

theorem c_space_Ends {a0 : api_Space} {r : (List Int)} (h : space_Ends a0 = some r) : PCall Try.prog 33 [eapi_Space a0] (eL none (D.int .i64) r) := by
 refine PCall.introN ok33 (show 1 ≤ 22 by decide) ?_
 refine NWp.norm (s0 := ⟨tab [(0, vs1 a0)], stab [], 0⟩) (nr []) ?_
 refine NWp.opsJ ⟨tab [(1, vp0 a0)], stab [], 0⟩ ?_ ?_
 ·
  iterate 2 refine q1 _ ?_
  exact nR []
 refine NWp.opsJ ⟨tab [(1, vp0 a0), (3, .d (.nils))], stab [], 0⟩ ?_ ?_
 ·
  refine q1 _ ?_
  exact nR []
 refine NWp.seq ?_
 refine NWp.opsJ ⟨tab [(1, vp0 a0), (3, .d (.nils)), (7, vi (a0.States.length : Int)), (8, vi 0)], stab [], 0⟩ ?_ ?_
 ·
  iterate 2 refine q1 _ ?_
  refine step (v := vi (a0.States.length : Int)) (st_len (xs := a0.States) (e := (eL none (D.int .u16))) rfl) ?_
  refine q1 _ ?_
  exact nR []
 obtain ⟨z13, hl, h⟩ := bindE h
 refine NWp.norm (s0 := ⟨tab [(1, vp0 a0), (3, .loc 0 0 (([] : List Int).length)), (7, vi (a0.States.length : Int)), (8, vi 0)], stab [(0, .lst false none (List.map (D.int .i64) ([] : List Int)))], 1⟩) (Norm.trans (s2 := ⟨tab [(1, vp0 a0), (3, .loc 0 0 (([] : List Int).length)), (7, vi (a0.States.length : Int)), (8, vi 0)], stab [(0, .lst false none (List.map (D.int .i64) ([] : List Int)))], 1⟩) (Norm.nil1 3 false none rfl) (nr [0])) ?_
 refine NWp.block ?_
 refine loop_forO (cntU (a0.States.length : Int)) (fun (i2 : Int) (qq : (List Int)) => ⟨tab [(1, vp0 a0), (3, .loc 0 0 qq.length), (7, vi (a0.States.length : Int)), (8, vi i2)], stab [(0, .lst false none (List.map (D.int .i64) qq))], 1⟩) 0 (fun (qq : (List Int)) => ⟨tab [(3, .loc 0 0 qq.length)], stab [(0, .lst false none (List.map (D.int .i64) qq))], 1⟩) Low low_step hl (by unfold Low; omega) ?_ ?_ ?_
 ·
  rintro i2 l1 xr7 hinv5 hgo4 h
  show NWp _ _ _ _ _ ⟨tab [(1, vp0 a0), (3, .loc 0 0 l1.length), (7, vi (a0.States.length : Int)), (8, vi i2)], stab [(0, .lst false none (List.map (D.int .i64) l1))], 1⟩
  have hc6 : decide (i2 < (a0.States.length : Int)) = true := decide_eq_true hgo4
  refine NWp.opsJ ⟨tab [(1, vp0 a0), (3, .loc 0 0 l1.length), (7, vi (a0.States.length : Int)), (8, vi i2), (9, vb (decide (i2 < (a0.States.length : Int))))], stab [(0, .lst false none (List.map (D.int .i64) l1))], 1⟩ ?_ ?_
  ·
   refine q1 _ ?_
   exact nR [0]
  refine NWp.rng 7 rfl fun hB3 => ?_
  refine NWp.seq ?_
  refine NWp.condT (t := decide (i2 < (a0.States.length : Int))) rfl hc6 ?_
  refine NWp.skip ?_
  obtain ⟨l11, hv, h⟩ := bindE h
  refine NWp.seqN ⟨tab [(1, vp0 a0), (3, .loc 0 0 l11.length), (7, vi (a0.States.length : Int)), (8, vi i2)], stab [(0, .lst false none (List.map (D.int .i64) l11))], 1⟩ ?_ ?_
  ·
   replace h := hv
   refine NWp.block ?_
   refine NWp.opsJ ⟨tab [(1, vp0 a0), (3, .loc 0 0 l1.length), (4, vi i2), (7, vi (a0.States.length : Int)), (8, vi i2)], stab [(0, .lst false none (List.map (D.int .i64) l1))], 1⟩ ?_ ?_
   ·
    iterate 2 refine q1 _ ?_
    exact nR [0]
   obtain ⟨r8, hr8, h⟩ := bindE h
   refine NWp.opsJ ⟨tab [(1, vp0 a0), (3, .loc 0 0 l1.length), (4, vi i2), (7, vi (a0.States.length : Int)), (8, vi i2), (15, vb ((r8.length : Int) == 0))], stab [(0, .lst false none (List.map (D.int .i64) l1))], 1⟩ ?_ ?_
   ·
    iterate 2 refine q1 _ ?_
    refine stepC (r := eL (some 3) eapi_Edge r8) (ArgsOk.dt (ArgsOk.dt ArgsOk.nil')) (c_space_From hr8) ?_
    refine step (v := vi (r8.length : Int)) (st_len (xs := r8) (e := eapi_Edge) rfl) ?_
    refine q1 _ ?_
    exact nR [0]
   by_cases hc9 : ((r8.length : Int) == 0) = true
   ·
    replace h := iteT hc9 h
    refine NWp.condT (t := ((r8.length : Int) == 0)) rfl hc9 ?_
    obtain ⟨l10, hl10, h⟩ := bindE h
    have hh := Option.some.inj h
    subst hh
    refine NWp.opsE ⟨tab [(1, vp0 a0), (3, .loc 0 0 l10.length), (7, vi (a0.States.length : Int)), (8, vi i2)], stab [(0, .lst false none (List.map (D.int .i64) l10))], 1⟩ ?_ ?_
    ·
     iterate 3 refine q1 _ ?_
     refine step (v := .loc 1 0 l10.length) (σ' := (upd (upd (stab [(0, .lst false none (List.map (D.int .i64) l1))]) 0 none) 1 (some (.lst false none (List.map (D.int .i64) l10))))) (n' := 2) (st_app (xs := l1) (ys := ([i2] : List Int)) (e := (D.int .i64)) hl10 rfl rfl rfl (src_v (xs := ([i2] : List Int)) (e := (D.int .i64)) rfl)) ?_
     refine q1 _ ?_
     exact nR [1]
    exact And.intro rfl rfl
   ·
    replace h := iteF hc9 h
    refine NWp.condF (t := ((r8.length : Int) == 0)) rfl hc9 ?_
    have hh := Option.some.inj h
    subst hh
    refine NWp.norm (s0 := ⟨tab [(1, vp0 a0), (3, .loc 0 0 l1.length), (7, vi (a0.States.length : Int)), (8, vi i2)], stab [(0, .lst false none (List.map (D.int .i64) l1))], 1⟩) (nr [0]) ?_
    refine NWp.skip ?_
    exact And.intro rfl rfl
  have hh := Option.some.inj h
  subst hh
  refine NWp.opsE ⟨tab [(1, vp0 a0), (3, .loc 0 0 l11.length), (7, vi (a0.States.length : Int)), (8, vi (i2 + 1))], stab [(0, .lst false none (List.map (D.int .i64) l11))], 1⟩ ?_ ?_
  ·
   refine step (v := vi (i2 + 1)) (st_inc (inc_ok hinv5 hgo4 hB3) rfl rfl) ?_
   refine q1 _ ?_
   exact nR [0]
  exact And.intro rfl rfl
 ·
  rintro i2 l1 hinv5 hgo4
  show NWp _ _ _ _ _ ⟨tab [(1, vp0 a0), (3, .loc 0 0 l1.length), (7, vi (a0.States.length : Int)), (8, vi i2)], stab [(0, .lst false none (List.map (D.int .i64) l1))], 1⟩
  have hc6 : ¬ (decide (i2 < (a0.States.length : Int)) = true) := fun hq => hgo4 (of_decide_eq_true hq)
  refine NWp.opsJ ⟨tab [(1, vp0 a0), (3, .loc 0 0 l1.length), (7, vi (a0.States.length : Int)), (8, vi i2), (9, vb (decide (i2 < (a0.States.length : Int))))], stab [(0, .lst false none (List.map (D.int .i64) l1))], 1⟩ ?_ ?_
  ·
   refine q1 _ ?_
   exact nR [0]
  refine NWp.seq ?_
  refine NWp.condF (t := decide (i2 < (a0.States.length : Int))) rfl hc6 ?_
  refine NWp.norm (s0 := ⟨tab [(3, .loc 0 0 l1.length)], stab [(0, .lst false none (List.map (D.int .i64) l1))], 1⟩) (nr [0]) ?_
  refine NWp.exit ?_
  exact And.intro rfl rfl
 refine NWp.opsJ ⟨tab [(2, .loc 0 0 z13.length)], stab [(0, .lst false none (List.map (D.int .i64) z13))], 1⟩ ?_ ?_
 ·
  iterate 2 refine q1 _ ?_
  exact nR [0]
 have hh := Option.some.inj h
 subst hh
 refine NWp.ret ?_
 show FQ _ _ _ _
 exact FQ.mk1 (.inr rfl) (res_t (v := .loc 0 0 z13.length) rfl rfl) (RV.loc (xs := z13) (e := (D.int .i64)) rfl rfl trivial)

theorem c_law11_awake  {r : Bool} (h : law11_awake  = some r) : PCall Try.prog 23 [] (.bool r) := by
 refine PCall.introN ok23 (show 0 ≤ 79 by decide) ?_
 refine NWp.norm (s0 := ⟨tab [], stab [], 0⟩) (nr []) ?_
 refine NWp.opsJ ⟨tab [], stab [], 0⟩ ?_ ?_
 ·
  refine q1 _ ?_
  exact nR []
 obtain ⟨r1, hr1, h⟩ := bindE h
 obtain ⟨r2, hr2, h⟩ := bindE h
 refine NWp.opsJ ⟨tab [(1, .ptr 0 0 0)], stab [(0, .var [vl1 ([0] : List Int), vi 0, vi 0, vh 0, vl3 [], .loc 1 0 (([r1, r2] : List api_Rule).length)]), (1, .lst false (some 3) (List.map eapi_Rule ([r1, r2] : List api_Rule)))], 2⟩ ?_ ?_
 ·
  refine q1 _ ?_
  refine step (v := vs5 (api_Pair.mk 0 0)) (st_build (ds := [.int .i64 0, .int .u16 0]) rfl) ?_
  refine q1 _ ?_
  refine step (v := vs5 (api_Pair.mk 0 1)) (st_build (ds := [.int .i64 0, .int .u16 1]) rfl) ?_
  refine q1 _ ?_
  refine stepC (r := eapi_Rule r1) (ArgsOk.dt (ArgsOk.dt ArgsOk.nil')) (c_law11_rule hr1) ?_
  refine step (v := vs5 (api_Pair.mk 0 1)) (st_build (ds := [.int .i64 0, .int .u16 1]) rfl) ?_
  refine q1 _ ?_
  refine step (v := vs5 (api_Pair.mk 0 2)) (st_build (ds := [.int .i64 0, .int .u16 2]) rfl) ?_
  refine q1 _ ?_
  refine stepC (r := eapi_Rule r2) (ArgsOk.dt (ArgsOk.dt ArgsOk.nil')) (c_law11_rule hr2) ?_
  refine step (v := .loc 0 0 (([r1, r2] : List api_Rule).length)) (σ' := (upd (stab []) 0 (some (.lst false (some 3) (List.map eapi_Rule ([r1, r2] : List api_Rule)))))) (n' := 1) rfl ?_
  refine q1 _ ?_
  refine step (v := .ptr 1 0 0) (σ' := (upd (upd (stab []) 0 (some (.lst false (some 3) (List.map eapi_Rule ([r1, r2] : List api_Rule))))) 1 (some (.var [vl1 [], vi 0, vi 0, vh 0, vl3 [], .d (.nils)])))) (n' := 2) rfl ?_
  refine step (v := V.undef) (σ' := (upd (upd (upd (stab []) 0 (some (.lst false (some 3) (List.map eapi_Rule ([r1, r2] : List api_Rule))))) 1 (some (.var [vl1 [], vi 0, vi 0, vh 0, vl3 [], .d (.nils)]))) 1 (some (.var [vl1 ([0] : List Int), vi 0, vi 0, vh 0, vl3 [], .loc 0 0 (([r1, r2] : List api_Rule).length)])))) (n' := 2) rfl ?_
  exact nR [1, 0]
 obtain ⟨r3, hr3, h⟩ := bindE h
 refine NWp.opsJ ⟨tab [(1, .ptr 0 0 0), (2, .ptr 2 0 0), (3, vi r3.2)], stab [(0, .var [vl1 ([0] : List Int), vi 0, vi 0, vh 0, vl3 [], .loc 1 0 (([r1, r2] : List api_Rule).length)]), (1, .lst false (some 3) (List.map eapi_Rule ([r1, r2] : List api_Rule))), (2, .var [.d (eL none (eL none (D.int .u16)) r3.1.States), vl0 r3.1.Edges])], 3⟩ ?_ ?_
 ·
  refine q1 _ ?_
  refine stepC (r := .tup [eapi_Space r3.1, .int .i64 r3.2]) (ArgsOk.vw (va_agg (optC vc_d (optC vc_d (optC vc_d (optC vc_d (optC vc_d (optC (vc_l (xs := ([r1, r2] : List api_Rule)) (e := eapi_Rule) rfl rfl) optN))))))) (Sub.aggs (by exact ⟨.refl _, .refl _, .refl _, .refl _, .refl _, .refl _, trivial⟩)) ArgsOk.nil') (c_space_Explore hr3) ?_
  iterate 3 refine q1 _ ?_
  refine step (v := .ptr 2 0 0) (σ' := (upd (stab [(0, .var [vl1 ([0] : List Int), vi 0, vi 0, vh 0, vl3 [], .loc 1 0 (([r1, r2] : List api_Rule).length)]), (1, .lst false (some 3) (List.map eapi_Rule ([r1, r2] : List api_Rule)))]) 2 (some (.var [.d (eL none (eL none (D.int .u16)) []), vl0 []])))) (n' := 3) rfl ?_
  refine step (v := V.undef) (σ' := (upd (upd (stab [(0, .var [vl1 ([0] : List Int), vi 0, vi 0, vh 0, vl3 [], .loc 1 0 (([r1, r2] : List api_Rule).length)]), (1, .lst false (some 3) (List.map eapi_Rule ([r1, r2] : List api_Rule)))]) 2 (some (.var [.d (eL none (eL none (D.int .u16)) []), vl0 []]))) 2 (some (.var [.d (eL none (eL none (D.int .u16)) r3.1.States), vl0 r3.1.Edges])))) (n' := 3) rfl ?_
  refine q1 _ ?_
  exact nR [0, 1, 2]
 obtain ⟨r4, hr4, h⟩ := bindE h
 obtain ⟨l5, hl5, h⟩ := bindE h
 refine NWp.opsJ ⟨tab [(1, .ptr 0 0 0), (2, .ptr 2 0 0), (3, vi r3.2)], stab [(0, .var [vl1 ([0] : List Int), vi 0, vi 0, vh 0, vl3 [], .loc 1 0 l5.length]), (1, .lst false (some 3) (List.map eapi_Rule l5)), (2, .var [.d (eL none (eL none (D.int .u16)) r3.1.States), vl0 r3.1.Edges])], 3⟩ ?_ ?_
 ·
  iterate 2 refine q1 _ ?_
  refine step (v := vs5 (api_Pair.mk 0 2)) (st_build (ds := [.int .i64 0, .int .u16 2]) rfl) ?_
  refine q1 _ ?_
  refine step (v := vs5 (api_Pair.mk 0 0)) (st_build (ds := [.int .i64 0, .int .u16 0]) rfl) ?_
  refine q1 _ ?_
  refine stepC (r := eapi_Rule r4) (ArgsOk.dt (ArgsOk.dt ArgsOk.nil')) (c_law11_rule hr4) ?_
  refine q1 _ ?_
  refine step (v := .loc 3 0 l5.length) (σ' := (upd (upd (stab [(0, .var [vl1 ([0] : List Int), vi 0, vi 0, vh 0, vl3 [], .loc 1 0 (([r1, r2] : List api_Rule).length)]), (1, .lst false (some 3) (List.map eapi_Rule ([r1, r2] : List api_Rule))), (2, .var [.d (eL none (eL none (D.int .u16)) r3.1.States), vl0 r3.1.Edges])]) 1 none) 3 (some (.lst false (some 3) (List.map eapi_Rule l5))))) (n' := 4) (st_app (xs := ([r1, r2] : List api_Rule)) (ys := ([r4] : List api_Rule)) (e := eapi_Rule) hl5 rfl rfl rfl (src_v (xs := ([r4] : List api_Rule)) (e := eapi_Rule) rfl)) ?_
  refine q1 _ ?_
  refine step (v := V.undef) (σ' := (upd (upd (upd (stab [(0, .var [vl1 ([0] : List Int), vi 0, vi 0, vh 0, vl3 [], .loc 1 0 (([r1, r2] : List api_Rule).length)]), (1, .lst false (some 3) (List.map eapi_Rule ([r1, r2] : List api_Rule))), (2, .var [.d (eL none (eL none (D.int .u16)) r3.1.States), vl0 r3.1.Edges])]) 1 none) 3 (some (.lst false (some 3) (List.map eapi_Rule l5)))) 0 (some (.var [vl1 ([0] : List Int), vi 0, vi 0, vh 0, vl3 [], .loc 3 0 l5.length])))) (n' := 4) rfl ?_
  exact nR [0, 3, 2]
 obtain ⟨r6, hr6, h⟩ := bindE h
 refine NWp.opsJ ⟨tab [(1, .ptr 0 0 0), (2, .ptr 2 0 0), (3, vi r3.2), (5, vi r6.2)], stab [(0, .var [vl1 ([0] : List Int), vi 0, vi 0, vh 0, vl3 [], .loc 1 0 l5.length]), (1, .lst false (some 3) (List.map eapi_Rule l5)), (2, .var [.d (eL none (eL none (D.int .u16)) r3.1.States), vl0 r3.1.Edges])], 3⟩ ?_ ?_
 ·
  refine q1 _ ?_
  refine stepC (r := .tup [eapi_Space r6.1, .int .i64 r6.2]) (ArgsOk.vw (va_agg (optC vc_d (optC vc_d (optC vc_d (optC vc_d (optC vc_d (optC (vc_l (xs := l5) (e := eapi_Rule) rfl rfl) optN))))))) (Sub.aggs (by exact ⟨.refl _, .refl _, .refl _, .refl _, .refl _, .refl _, trivial⟩)) ArgsOk.nil') (c_space_Explore hr6) ?_
  iterate 3 refine q1 _ ?_
  refine step (v := .ptr 3 0 0) (σ' := (upd (stab [(0, .var [vl1 ([0] : List Int), vi 0, vi 0, vh 0, vl3 [], .loc 1 0 l5.length]), (1, .lst false (some 3) (List.map eapi_Rule l5)), (2, .var [.d (eL none (eL none (D.int .u16)) r3.1.States), vl0 r3.1.Edges])]) 3 (some (.var [.d (eL none (eL none (D.int .u16)) []), vl0 []])))) (n' := 4) rfl ?_
  refine step (v := V.undef) (σ' := (upd (upd (stab [(0, .var [vl1 ([0] : List Int), vi 0, vi 0, vh 0, vl3 [], .loc 1 0 l5.length]), (1, .lst false (some 3) (List.map eapi_Rule l5)), (2, .var [.d (eL none (eL none (D.int .u16)) r3.1.States), vl0 r3.1.Edges])]) 3 (some (.var [.d (eL none (eL none (D.int .u16)) []), vl0 []]))) 3 (some (.var [.d (eL none (eL none (D.int .u16)) r6.1.States), vl0 r6.1.Edges])))) (n' := 4) rfl ?_
  refine q1 _ ?_
  exact nR [0, 1, 2]
 obtain ⟨y17, hv, h⟩ := bindE h
 refine NWp.opsJ ⟨tab [(0, vb y17)], stab [], 0⟩ ?_ ?_
 ·
  iterate 3 refine q1 _ ?_
  by_cases hg7 : (r3.2 == 0) = true
  ·
   replace hv := iteT hg7 hv
   refine qG _ hg7 ?_
   refine q1 _ ?_
   refine qG _ hg7 ?_
   refine q1 _ ?_
   refine step (v := vb (r6.2 == 20)) (st_pickT (b := (r3.2 == 0)) rfl hg7 rfl) ?_
   refine q1 _ ?_
   by_cases hg8 : (r6.2 == 20) = true
   ·
    replace hv := iteT hg8 hv
    refine qG _ hg8 ?_
    refine q1 _ ?_
    refine qG _ hg8 ?_
    refine q1 _ ?_
    refine qG _ hg8 ?_
    refine step (v := vi (r3.1.States.length : Int)) (st_len (xs := r3.1.States) (e := (eL none (D.int .u16))) rfl) ?_
    refine qG _ hg8 ?_
    refine q1 _ ?_
    refine step (v := vb ((r3.1.States.length : Int) == 3)) (st_pickT (b := (r6.2 == 20)) rfl hg8 rfl) ?_
    refine q1 _ ?_
    by_cases hg9 : ((r3.1.States.length : Int) == 3) = true
    ·
     replace hv := iteT hg9 hv
     refine qG _ hg9 ?_
     refine q1 _ ?_
     refine qG _ hg9 ?_
     refine q1 _ ?_
     refine qG _ hg9 ?_
     refine step (v := vi (r3.1.Edges.length : Int)) (st_len (xs := r3.1.Edges) (e := eapi_Edge) rfl) ?_
     refine qG _ hg9 ?_
     refine q1 _ ?_
     refine step (v := vb ((r3.1.Edges.length : Int) == 2)) (st_pickT (b := ((r3.1.States.length : Int) == 3)) rfl hg9 rfl) ?_
     refine q1 _ ?_
     by_cases hg10 : ((r3.1.Edges.length : Int) == 2) = true
     ·
      replace hv := iteT hg10 hv
      obtain ⟨x11, hx11, hv⟩ := bindE hv
      refine qG _ hg10 ?_
      refine q1 _ ?_
      refine qG _ hg10 ?_
      refine q1 _ ?_
      refine qG _ hg10 ?_
      refine step (v := vp5 x11) (st_iaddr (xs := r3.1.Edges) (e := eapi_Edge) hx11 rfl rfl) ?_
      refine qG _ hg10 ?_
      refine q1 _ ?_
      refine qG _ hg10 ?_
      refine step (v := .d (eapi_Edge (api_Edge.mk 1 1 2))) (st_build (ds := [.int .i64 1, .int .i64 1, .int .i64 2]) rfl) ?_
      refine qG _ hg10 ?_
      refine step (v := vb (x11 == (api_Edge.mk 1 1 2))) (st_eqS (neg := false) rfl rfl (eqS_api_Edge x11 (api_Edge.mk 1 1 2))) ?_
      refine step (v := vb (x11 == (api_Edge.mk 1 1 2))) (st_pickT (b := ((r3.1.Edges.length : Int) == 2)) rfl hg10 rfl) ?_
      refine q1 _ ?_
      by_cases hg12 : (x11 == (api_Edge.mk 1 1 2)) = true
      ·
       replace hv := iteT hg12 hv
       obtain ⟨r13, hr13, hv⟩ := bindE hv
       refine qG _ hg12 ?_
       refine step (v := vs1 r3.1) (st_ldV (ds := [eL none (eL none (D.int .u16)) r3.1.States, eL (some 3) eapi_Edge r3.1.Edges]) rfl rfl (show 2 ≤ 2 by decide) rfl) ?_
       refine qG _ hg12 ?_
       refine stepC (r := eL none (D.int .i64) r13) (ArgsOk.dt ArgsOk.nil') (c_space_Ends hr13) ?_
       refine qG _ hg12 ?_
       refine step (v := vi (r13.length : Int)) (st_len (xs := r13) (e := (D.int .i64)) rfl) ?_
       refine qG _ hg12 ?_
       refine q1 _ ?_
       refine step (v := vb ((r13.length : Int) == 1)) (st_pickT (b := (x11 == (api_Edge.mk 1 1 2))) rfl hg12 rfl) ?_
       refine q1 _ ?_
       by_cases hg14 : ((r13.length : Int) == 1) = true
       ·
        replace hv := iteT hg14 hv
        obtain ⟨x15, hx15, hv⟩ := bindE hv
        obtain ⟨r16, hr16, hv⟩ := bindE hv
        refine qG _ hg14 ?_
        refine q1 _ ?_
        refine qG _ hg14 ?_
        refine q1 _ ?_
        refine qG _ hg14 ?_
        refine step (v := .ptr 1 (0 : Int).toNat 0) (st_iaddrL (xs := l5) (e := eapi_Rule) hx15 rfl rfl rfl rfl) ?_
        refine qG _ hg14 ?_
        refine step (v := vs4 x15) (st_loadL (xs := l5) (e := eapi_Rule) hx15 rfl rfl rfl) ?_
        refine qG _ hg14 ?_
        refine q1 _ ?_
        refine qG _ hg14 ?_
        refine stepC (r := .bool r16) (ArgsOk.dt (ArgsOk.dt ArgsOk.nil')) (c_space_Goes hr16) ?_
        refine step (v := vb r16) (st_pickT (b := ((r13.length : Int) == 1)) rfl hg14 rfl) ?_
        refine q1 _ ?_
        have hh := Option.some.inj hv
        subst hh
        exact nR []
       ·
        replace hv := iteF hg14 hv
        iterate 6 refine qX _ hg14 ?_
        refine step (v := vb false) (st_pickF (b := ((r13.length : Int) == 1)) rfl hg14 rfl) ?_
        refine q1 _ ?_
        have hh := Option.some.inj hv
        subst hh
        exact nR []
      ·
       replace hv := iteF hg12 hv
       iterate 4 refine qX _ hg12 ?_
       refine step (v := vb false) (st_pickF (b := (x11 == (api_Edge.mk 1 1 2))) rfl hg12 rfl) ?_
       refine q1 _ ?_
       iterate 6 refine qX false (by decide) ?_
       refine step (v := vb false) (st_pickF (b := false) rfl (by decide) rfl) ?_
       refine q1 _ ?_
       have hh := Option.some.inj hv
       subst hh
       exact nR []
     ·
      replace hv := iteF hg10 hv
      iterate 6 refine qX _ hg10 ?_
      refine step (v := vb false) (st_pickF (b := ((r3.1.Edges.length : Int) == 2)) rfl hg10 rfl) ?_
      refine q1 _ ?_
      iterate 4 refine qX false (by decide) ?_
      refine step (v := vb false) (st_pickF (b := false) rfl (by decide) rfl) ?_
      refine q1 _ ?_
      iterate 6 refine qX false (by decide) ?_
      refine step (v := vb false) (st_pickF (b := false) rfl (by decide) rfl) ?_
      refine q1 _ ?_
      have hh := Option.some.inj hv
      subst hh
      exact nR []
    ·
     replace hv := iteF hg9 hv
     iterate 4 refine qX _ hg9 ?_
     refine step (v := vb false) (st_pickF (b := ((r3.1.States.length : Int) == 3)) rfl hg9 rfl) ?_
     refine q1 _ ?_
     iterate 6 refine qX false (by decide) ?_
     refine step (v := vb false) (st_pickF (b := false) rfl (by decide) rfl) ?_
     refine q1 _ ?_
     iterate 4 refine qX false (by decide) ?_
     refine step (v := vb false) (st_pickF (b := false) rfl (by decide) rfl) ?_
     refine q1 _ ?_
     iterate 6 refine qX false (by decide) ?_
     refine step (v := vb false) (st_pickF (b := false) rfl (by decide) rfl) ?_
     refine q1 _ ?_
     have hh := Option.some.inj hv
     subst hh
     exact nR []
   ·
    replace hv := iteF hg8 hv
    iterate 4 refine qX _ hg8 ?_
    refine step (v := vb false) (st_pickF (b := (r6.2 == 20)) rfl hg8 rfl) ?_
    refine q1 _ ?_
    iterate 4 refine qX false (by decide) ?_
    refine step (v := vb false) (st_pickF (b := false) rfl (by decide) rfl) ?_
    refine q1 _ ?_
    iterate 6 refine qX false (by decide) ?_
    refine step (v := vb false) (st_pickF (b := false) rfl (by decide) rfl) ?_
    refine q1 _ ?_
    iterate 4 refine qX false (by decide) ?_
    refine step (v := vb false) (st_pickF (b := false) rfl (by decide) rfl) ?_
    refine q1 _ ?_
    iterate 6 refine qX false (by decide) ?_
    refine step (v := vb false) (st_pickF (b := false) rfl (by decide) rfl) ?_
    refine q1 _ ?_
    have hh := Option.some.inj hv
    subst hh
    exact nR []
  ·
   replace hv := iteF hg7 hv
   iterate 2 refine qX _ hg7 ?_
   refine step (v := vb false) (st_pickF (b := (r3.2 == 0)) rfl hg7 rfl) ?_
   refine q1 _ ?_
   iterate 4 refine qX false (by decide) ?_
   refine step (v := vb false) (st_pickF (b := false) rfl (by decide) rfl) ?_
   refine q1 _ ?_
   iterate 4 refine qX false (by decide) ?_
   refine step (v := vb false) (st_pickF (b := false) rfl (by decide) rfl) ?_
   refine q1 _ ?_
   iterate 6 refine qX false (by decide) ?_
   refine step (v := vb false) (st_pickF (b := false) rfl (by decide) rfl) ?_
   refine q1 _ ?_
   iterate 4 refine qX false (by decide) ?_
   refine step (v := vb false) (st_pickF (b := false) rfl (by decide) rfl) ?_
   refine q1 _ ?_
   iterate 6 refine qX false (by decide) ?_
   refine step (v := vb false) (st_pickF (b := false) rfl (by decide) rfl) ?_
   refine q1 _ ?_
   have hh := Option.some.inj hv
   subst hh
   exact nR []
 have hh := Option.some.inj h
 subst hh
 refine NWp.ret ?_
 show FQ _ _ _ _
 exact FQ.mk1 (.inr rfl) (res_t (v := vb y17) rfl rfl) (RV.d trivial)

theorem c_law11_Small {a0 : api_Program} {r : Bool} (h : law11_Small a0 = some r) : PCall Try.prog 24 [eapi_Program a0] (.bool r) := by
 refine PCall.introN ok24 (show 1 ≤ 39 by decide) ?_
 refine NWp.norm (s0 := ⟨tab [(0, vs3 a0)], stab [], 0⟩) (nr []) ?_
 refine NWp.opsJ ⟨tab [(1, vp2 a0)], stab [], 0⟩ ?_ ?_
 ·
  iterate 2 refine q1 _ ?_
  exact nR []
 refine NWp.seq ?_
 refine NWp.opsJ ⟨tab [(1, vp2 a0), (14, vb ((decide ((a0.Init.length : Int) > 5)) || (decide ((a0.Rules.length : Int) > 26))))], stab [], 0⟩ ?_ ?_
 ·
  iterate 2 refine q1 _ ?_
  refine step (v := vi (a0.Init.length : Int)) (st_len (xs := a0.Init) (e := (D.int .u16)) rfl) ?_
  iterate 2 refine q1 _ ?_
  by_cases hg1 : decide ((a0.Init.length : Int) > 5) = true
  ·
   iterate 4 refine qX (decide ((a0.Init.length : Int) > 5)) (by rw [hg1]; decide) ?_
   refine step (v := vb true) (st_pickT (b := decide ((a0.Init.length : Int) > 5)) rfl hg1 rfl) ?_
   exact RunOps.nil' (nm [] ⟨.d _, .eq (by first | (simp [hg1]; done) | (simp_all; done) | grind), trivial⟩ trivial)
  ·
   refine qG (decide ((a0.Init.length : Int) > 5)) (Bool.eq_false_iff.2 hg1) ?_
   refine q1 _ ?_
   refine qG (decide ((a0.Init.length : Int) > 5)) (Bool.eq_false_iff.2 hg1) ?_
   refine q1 _ ?_
   refine qG (decide ((a0.Init.length : Int) > 5)) (Bool.eq_false_iff.2 hg1) ?_
   refine step (v := vi (a0.Rules.length : Int)) (st_len (xs := a0.Rules) (e := eapi_Rule) rfl) ?_
   refine qG (decide ((a0.Init.length : Int) > 5)) (Bool.eq_false_iff.2 hg1) ?_
   refine q1 _ ?_
   refine step (v := vb (decide ((a0.Rules.length : Int) > 26))) (st_pickF (b := decide ((a0.Init.length : Int) > 5)) rfl hg1 rfl) ?_
   exact RunOps.nil' (nm [] ⟨.d _, .eq (by first | (simp [hg1]; done) | (simp_all; done) | grind), trivial⟩ trivial)
 by_cases hc2 : ((decide ((a0.Init.length : Int) > 5)) || (decide ((a0.Rules.length : Int) > 26))) = true
 ·
  replace h := iteT hc2 h
  refine NWp.condT (t := ((decide ((a0.Init.length : Int) > 5)) || (decide ((a0.Rules.length : Int) > 26)))) rfl hc2 ?_
  refine NWp.opsJ ⟨tab [(2, vb false)], stab [], 0⟩ ?_ ?_
  ·
   refine q1 _ ?_
   exact nR []
  have hh := Option.some.inj h
  subst hh
  refine NWp.ret ?_
  show FQ _ _ _ _
  exact FQ.mk1 (.inr rfl) (res_t (v := vb false) rfl rfl) (RV.d trivial)
 ·
  replace h := iteF hc2 h
  refine NWp.condF (t := ((decide ((a0.Init.length : Int) > 5)) || (decide ((a0.Rules.length : Int) > 26)))) rfl hc2 ?_
  refine NWp.skip ?_
  refine NWp.seq ?_
  refine NWp.opsJ ⟨tab [(16, vl4 a0.Rules), (17, vi (a0.Rules.length : Int)), (18, vi 0)], stab [], 0⟩ ?_ ?_
  ·
   iterate 2 refine q1 _ ?_
   refine step (v := vi (a0.Rules.length : Int)) (st_len (xs := a0.Rules) (e := eapi_Rule) rfl) ?_
   refine q1 _ ?_
   exact nR []
  obtain ⟨q13, hl, h⟩ := bindE h
  refine NWp.block ?_
  refine loop_forR (cntU (a0.Rules.length : Int)) (fun (i3 : Int) (qq : Unit) => ⟨tab [(16, vl4 a0.Rules), (17, vi (a0.Rules.length : Int)), (18, vi i3)], stab [], 0⟩) 0 (fun (qq : Unit) => ⟨tab [], stab [], 0⟩) Low low_step (r := r) hl (by unfold Low; omega) ?_ ?_ ?_ ?_
  ·
   rintro i3 ⟨⟩ xr8 hinv6 hgo5 h
   show NWp _ _ _ _ _ ⟨tab [(16, vl4 a0.Rules), (17, vi (a0.Rules.length : Int)), (18, vi i3)], stab [], 0⟩
   have hc7 : decide (i3 < (a0.Rules.length : Int)) = true := decide_eq_true hgo5
   refine NWp.opsJ ⟨tab [(16, vl4 a0.Rules), (17, vi (a0.Rules.length : Int)), (18, vi i3), (19, vb (decide (i3 < (a0.Rules.length : Int))))], stab [], 0⟩ ?_ ?_
   ·
    refine q1 _ ?_
    exact nR []
   refine NWp.rng 17 rfl fun hB4 => ?_
   refine NWp.seq ?_
   refine NWp.condT (t := decide (i3 < (a0.Rules.length : Int))) rfl hc7 ?_
   refine NWp.skip ?_
   refine NWp.seq ?_
   refine NWp.block ?_
   obtain ⟨x9, hx9, h⟩ := bindE h
   refine NWp.opsJ ⟨tab [(4, .ptr 0 0 0), (16, vl4 a0.Rules), (17, vi (a0.Rules.length : Int)), (18, vi i3)], stab [(0, bv0 x9)], 1⟩ ?_ ?_
   ·
    refine step (v := vp3 x9) (st_iaddr (xs := a0.Rules) (e := eapi_Rule) hx9 rfl rfl) ?_
    refine q1 _ ?_
    refine step (v := .ptr 0 0 0) (σ' := (upd (stab []) 0 (some (.var [vl2 [], vl2 [], vl2 []])))) (n' := 1) rfl ?_
    refine step (v := V.undef) (σ' := (upd (upd (stab []) 0 (some (.var [vl2 [], vl2 [], vl2 []]))) 0 (some (bv0 x9)))) (n' := 1) rfl ?_
    exact nR [0]
   refine NWp.opsJ ⟨tab [(16, vl4 a0.Rules), (17, vi (a0.Rules.length : Int)), (18, vi i3), (37, vb ((decide ((x9.When.length : Int) > 8)) || ((decide ((x9.Guard.length : Int) > 6)) || (decide ((x9.Then.length : Int) > 6)))))], stab [], 0⟩ ?_ ?_
   ·
    iterate 2 refine q1 _ ?_
    refine step (v := vi (x9.When.length : Int)) (st_len (xs := x9.When) (e := eapi_Pair) rfl) ?_
    iterate 2 refine q1 _ ?_
    by_cases hg10 : decide ((x9.When.length : Int) > 8) = true
    ·
     iterate 4 refine qX (decide ((x9.When.length : Int) > 8)) (by rw [hg10]; decide) ?_
     refine step (v := vb true) (st_pickT (b := decide ((x9.When.length : Int) > 8)) rfl hg10 rfl) ?_
     refine q1 _ ?_
     iterate 4 refine qX true (by decide) ?_
     refine step (v := vb true) (st_pickT (b := true) rfl rfl rfl) ?_
     exact RunOps.nil' (nm [] ⟨.d _, .d _, .d _, .eq (by first | (simp [hg10]; done) | (simp_all; done) | grind), trivial⟩ trivial)
    ·
     refine qG (decide ((x9.When.length : Int) > 8)) (Bool.eq_false_iff.2 hg10) ?_
     refine q1 _ ?_
     refine qG (decide ((x9.When.length : Int) > 8)) (Bool.eq_false_iff.2 hg10) ?_
     refine q1 _ ?_
     refine qG (decide ((x9.When.length : Int) > 8)) (Bool.eq_false_iff.2 hg10) ?_
     refine step (v := vi (x9.Guard.length : Int)) (st_len (xs := x9.Guard) (e := eapi_Pair) rfl) ?_
     refine qG (decide ((x9.When.length : Int) > 8)) (Bool.eq_false_iff.2 hg10) ?_
     refine q1 _ ?_
     refine step (v := vb (decide ((x9.Guard.length : Int) > 6))) (st_pickF (b := decide ((x9.When.length : Int) > 8)) rfl hg10 rfl) ?_
     refine q1 _ ?_
     by_cases hg11 : decide ((x9.Guard.length : Int) > 6) = true
     ·
      iterate 4 refine qX (decide ((x9.Guard.length : Int) > 6)) (by rw [hg11]; decide) ?_
      refine step (v := vb true) (st_pickT (b := decide ((x9.Guard.length : Int) > 6)) rfl hg11 rfl) ?_
      exact RunOps.nil' (nm [] ⟨.d _, .d _, .d _, .eq (by first | (simp [hg10, hg11]; done) | (simp_all; done) | grind), trivial⟩ trivial)
     ·
      refine qG (decide ((x9.Guard.length : Int) > 6)) (Bool.eq_false_iff.2 hg11) ?_
      refine q1 _ ?_
      refine qG (decide ((x9.Guard.length : Int) > 6)) (Bool.eq_false_iff.2 hg11) ?_
      refine q1 _ ?_
      refine qG (decide ((x9.Guard.length : Int) > 6)) (Bool.eq_false_iff.2 hg11) ?_
      refine step (v := vi (x9.Then.length : Int)) (st_len (xs := x9.Then) (e := eapi_Pair) rfl) ?_
      refine qG (decide ((x9.Guard.length : Int) > 6)) (Bool.eq_false_iff.2 hg11) ?_
      refine q1 _ ?_
      refine step (v := vb (decide ((x9.Then.length : Int) > 6))) (st_pickF (b := decide ((x9.Guard.length : Int) > 6)) rfl hg11 rfl) ?_
      exact RunOps.nil' (nm [] ⟨.d _, .d _, .d _, .eq (by first | (simp [hg10, hg11]; done) | (simp_all; done) | grind), trivial⟩ trivial)
   by_cases hc12 : ((decide ((x9.When.length : Int) > 8)) || ((decide ((x9.Guard.length : Int) > 6)) || (decide ((x9.Then.length : Int) > 6)))) = true
   ·
    replace h := iteT hc12 h
    refine NWp.condT (t := ((decide ((x9.When.length : Int) > 8)) || ((decide ((x9.Guard.length : Int) > 6)) || (decide ((x9.Then.length : Int) > 6))))) rfl hc12 ?_
    refine NWp.opsJ ⟨tab [(2, vb false)], stab [], 0⟩ ?_ ?_
    ·
     refine q1 _ ?_
     exact nR []
    obtain ⟨r13, kr13, hr⟩ := mapE (o := some false) (g := Br.ret) h
    subst hr
    have h := kr13
    have hh := Option.some.inj h
    subst hh
    refine NWp.ret ?_
    refine And.intro (fun hn => nomatch hn) ?_
    intro hq
    have hq := hq.symm
    subst hq
    show FQ _ _ _ _
    exact FQ.mk1 (.inr rfl) (res_t (v := vb false) rfl rfl) (RV.d trivial)
   ·
    replace h := iteF hc12 h
    refine NWp.condF (t := ((decide ((x9.When.length : Int) > 8)) || ((decide ((x9.Guard.length : Int) > 6)) || (decide ((x9.Then.length : Int) > 6))))) rfl hc12 ?_
    refine NWp.skip ?_
    have hh := Option.some.inj h
    subst hh
    refine NWp.opsE ⟨tab [(16, vl4 a0.Rules), (17, vi (a0.Rules.length : Int)), (18, vi (i3 + 1))], stab [], 0⟩ ?_ ?_
    ·
     refine step (v := vi (i3 + 1)) (st_inc (inc_ok hinv6 hgo5 hB4) rfl rfl) ?_
     refine q1 _ ?_
     exact nR []
    exact And.intro rfl rfl
  ·
   rintro i3 ⟨⟩ hinv6 hgo5
   show NWp _ _ _ _ _ ⟨tab [(16, vl4 a0.Rules), (17, vi (a0.Rules.length : Int)), (18, vi i3)], stab [], 0⟩
   have hc7 : ¬ (decide (i3 < (a0.Rules.length : Int)) = true) := fun hq => hgo5 (of_decide_eq_true hq)
   refine NWp.opsJ ⟨tab [(16, vl4 a0.Rules), (17, vi (a0.Rules.length : Int)), (18, vi i3), (19, vb (decide (i3 < (a0.Rules.length : Int))))], stab [], 0⟩ ?_ ?_
   ·
    refine q1 _ ?_
    exact nR []
   refine NWp.seq ?_
   refine NWp.condF (t := decide (i3 < (a0.Rules.length : Int))) rfl hc7 ?_
   refine NWp.norm (s0 := ⟨tab [], stab [], 0⟩) (nr []) ?_
   refine NWp.exit ?_
   exact And.intro rfl rfl
  ·
   intro r' hq
   subst hq
   exact Option.some.inj h
  rintro ⟨⟩ rfl
  refine NWp.opsJ ⟨tab [(2, vb true)], stab [], 0⟩ ?_ ?_
  ·
   refine q1 _ ?_
   exact nR []
  have hh := Option.some.inj h
  subst hh
  refine NWp.ret ?_
  show FQ _ _ _ _
  exact FQ.mk1 (.inr rfl) (res_t (v := vb true) rfl rfl) (RV.d trivial)

end Go.AM
