import Derived.Test.YtkgegocfjalcbaaTpE
/-  What they are in the program: walks. -/
set_option linter.unusedVariables false
set_option linter.unusedSimpArgs false
namespace Go.AM
open Go Go.RowKit Go.Proofs

attribute [local irreducible] RunOps

theorem c_law28_put {a0 : Int} {r : api_Pol} (h : law28_put a0 = some r) : PCall Try.prog 74 [.int .u16 a0] (uapi_Pol r) := by
 refine PCall.introN ok74 (show 1 ≤ 5 by decide) ?_
 refine NWp.norm (s0 := ⟨tab [(0, vh a0)], stab [], 0⟩) (nr []) ?_
 refine NWp.opsJ ⟨tab [(0, vh a0), (2, .ptr 0 0 0)], stab [(0, bv0)], 1⟩ ?_ ?_
 ·
  refine step (v := .ptr 0 0 0) (σ' := (upd (stab []) 0 (some (bv0)))) (n' := 1) rfl ?_
  exact nR [0]
 refine NWp.opsJ ⟨tab [(2, .ptr 0 0 0)], stab [(0, .var [vi 5, vi 1, vh a0, vl0 []])], 1⟩ ?_ ?_
 ·
  refine q1 (vh a0) ?_
  refine step (v := vs0 (api_Pol.mk 5 1 a0 [])) (st_build (ds := [.int .i64 5, .int .i64 1, .int .u16 a0, eL (some 4) eapi_Pol []]) rfl) ?_
  refine step (v := V.undef) (σ' := (upd (stab [(0, bv0)]) 0 (some (.var [vi 5, vi 1, vh a0, vl0 []])))) (n' := 1) rfl ?_
  exact nR [0]
 have hh := Option.some.inj h
 subst hh
 refine NWp.ret ?_
 show FQ _ _ _ _
 exact FQ.mk1 (.inr rfl) (res_cell (ds := [.int .i64 5, .int .i64 1, .int .u16 a0, eL (some 4) eapi_Pol []]) rfl rfl (show 4 ≤ 4 by decide) rfl rfl) (RV.d trivial)

theorem c_law07_Seq {a0 : (List api_Pol)} {r : api_Pol} (h : law07_Seq a0 = some r) : PCall Try.prog 47 [eL (some 4) eapi_Pol a0] (uapi_Pol r) := by
 refine PCall.introN ok47 (show 1 ≤ 5 by decide) ?_
 refine NWp.norm (s0 := ⟨tab [(0, vl0 a0)], stab [], 0⟩) (nr []) ?_
 refine NWp.opsJ ⟨tab [(0, vl0 a0), (2, .ptr 0 0 0)], stab [(0, bv0)], 1⟩ ?_ ?_
 ·
  refine step (v := .ptr 0 0 0) (σ' := (upd (stab []) 0 (some (bv0)))) (n' := 1) rfl ?_
  exact nR [0]
 refine NWp.opsJ ⟨tab [(2, .ptr 0 0 0)], stab [(0, .var [vi 6, vi 0, vh 0, vl0 a0])], 1⟩ ?_ ?_
 ·
  refine q1 (vl0 a0) ?_
  refine step (v := vs0 (api_Pol.mk 6 0 0 a0)) (st_build (ds := [.int .i64 6, .int .i64 0, .int .u16 0, eL (some 4) eapi_Pol a0]) rfl) ?_
  refine step (v := V.undef) (σ' := (upd (stab [(0, bv0)]) 0 (some (.var [vi 6, vi 0, vh 0, vl0 a0])))) (n' := 1) rfl ?_
  exact nR [0]
 have hh := Option.some.inj h
 subst hh
 refine NWp.ret ?_
 show FQ _ _ _ _
 exact FQ.mk1 (.inr rfl) (res_cell (ds := [.int .i64 6, .int .i64 0, .int .u16 0, eL (some 4) eapi_Pol a0]) rfl rfl (show 4 ≤ 4 by decide) rfl rfl) (RV.d trivial)

theorem c_law07_Sum {a0 : (List api_Pol)} {r : api_Pol} (h : law07_Sum a0 = some r) : PCall Try.prog 46 [eL (some 4) eapi_Pol a0] (uapi_Pol r) := by
 refine PCall.introN ok46 (show 1 ≤ 5 by decide) ?_
 refine NWp.norm (s0 := ⟨tab [(0, vl0 a0)], stab [], 0⟩) (nr []) ?_
 refine NWp.opsJ ⟨tab [(0, vl0 a0), (2, .ptr 0 0 0)], stab [(0, bv0)], 1⟩ ?_ ?_
 ·
  refine step (v := .ptr 0 0 0) (σ' := (upd (stab []) 0 (some (bv0)))) (n' := 1) rfl ?_
  exact nR [0]
 refine NWp.opsJ ⟨tab [(2, .ptr 0 0 0)], stab [(0, .var [vi 7, vi 0, vh 0, vl0 a0])], 1⟩ ?_ ?_
 ·
  refine q1 (vl0 a0) ?_
  refine step (v := vs0 (api_Pol.mk 7 0 0 a0)) (st_build (ds := [.int .i64 7, .int .i64 0, .int .u16 0, eL (some 4) eapi_Pol a0]) rfl) ?_
  refine step (v := V.undef) (σ' := (upd (stab [(0, bv0)]) 0 (some (.var [vi 7, vi 0, vh 0, vl0 a0])))) (n' := 1) rfl ?_
  exact nR [0]
 have hh := Option.some.inj h
 subst hh
 refine NWp.ret ?_
 show FQ _ _ _ _
 exact FQ.mk1 (.inr rfl) (res_cell (ds := [.int .i64 7, .int .i64 0, .int .u16 0, eL (some 4) eapi_Pol a0]) rfl rfl (show 4 ≤ 4 by decide) rfl rfl) (RV.d trivial)

theorem c_syntax_Size_s {self : api_Pol → Option Int} (hself : ∀ (a0 : api_Pol) (r : Int), self a0 = some r → PCall Try.prog 83 [uapi_Pol a0] (.int .i64 r)) {a0 : api_Pol} {r : Int} (h : syntax_Size_s self a0 = some r) : PCall Try.prog 83 [uapi_Pol a0] (.int .i64 r) := by
 refine PCall.introN ok83 (show 1 ≤ 19 by decide) ?_
 refine NWp.norm (s0 := ⟨tab [(0, vs0 a0)], stab [], 0⟩) (nr []) ?_
 refine NWp.opsJ ⟨tab [(1, vp0 a0)], stab [], 0⟩ ?_ ?_
 ·
  refine q1 (vp0 a0) ?_
  refine q1 (vi 0) ?_
  exact nR []
 refine NWp.opsJ ⟨tab [(1, vp0 a0), (3, vi 1)], stab [], 0⟩ ?_ ?_
 ·
  refine q1 (vi 1) ?_
  exact nR []
 refine NWp.seq ?_
 refine NWp.opsJ ⟨tab [(3, vi 1), (7, vl0 a0.Kids), (8, vi (a0.Kids.length : Int)), (9, vi 0)], stab [], 0⟩ ?_ ?_
 ·
  refine q1 (.d (.cptr (some 4) (uapi_Pol a0) 3)) ?_
  refine q1 (vl0 a0.Kids) ?_
  refine step (v := vi (a0.Kids.length : Int)) (st_len (xs := a0.Kids) (e := eapi_Pol) rfl) ?_
  refine q1 (vi 0) ?_
  exact nR []
 obtain ⟨z10, hl, h⟩ := bindE h
 refine NWp.block ?_
 refine loop_forO (cntU (a0.Kids.length : Int)) (fun (i2 : Int) (qq : Int) => ⟨tab [(3, vi qq), (7, vl0 a0.Kids), (8, vi (a0.Kids.length : Int)), (9, vi i2)], stab [], 0⟩) 0 (fun (qq : Int) => ⟨tab [(3, vi qq)], stab [], 0⟩) Low low_step hl (by unfold Low; omega) ?_ ?_ ?_
 ·
  rintro i2 i1 xr7 hinv5 hgo4 h
  show NWp _ _ _ _ _ ⟨tab [(3, vi i1), (7, vl0 a0.Kids), (8, vi (a0.Kids.length : Int)), (9, vi i2)], stab [], 0⟩
  have hc6 : decide (i2 < (a0.Kids.length : Int)) = true := decide_eq_true hgo4
  refine NWp.opsJ ⟨tab [(3, vi i1), (7, vl0 a0.Kids), (8, vi (a0.Kids.length : Int)), (9, vi i2), (10, vb (decide (i2 < (a0.Kids.length : Int))))], stab [], 0⟩ ?_ ?_
  ·
   refine q1 (vb (decide (i2 < (a0.Kids.length : Int)))) ?_
   exact nR []
  refine NWp.rng 8 rfl fun hB3 => ?_
  refine NWp.seq ?_
  refine NWp.condT (t := decide (i2 < (a0.Kids.length : Int))) rfl hc6 ?_
  refine NWp.skip ?_
  refine NWp.seq ?_
  refine NWp.block ?_
  obtain ⟨x8, hx8, h⟩ := bindE h
  refine NWp.opsJ ⟨tab [(3, vi i1), (5, .ptr 0 0 0), (7, vl0 a0.Kids), (8, vi (a0.Kids.length : Int)), (9, vi i2)], stab [(0, bv1 x8)], 1⟩ ?_ ?_
  ·
   refine step (v := vp0 x8) (st_iaddrU (xs := a0.Kids) (e := eapi_Pol) hx8 rfl rfl (eu_api_Pol _)) ?_
   refine q1 (vs0 x8) ?_
   refine step (v := .ptr 0 0 0) (σ' := (upd (stab []) 0 (some (bv0)))) (n' := 1) rfl ?_
   refine step (v := V.undef) (σ' := (upd (upd (stab []) 0 (some (bv0))) 0 (some (bv1 x8)))) (n' := 1) rfl ?_
   exact nR [0]
  obtain ⟨r9, hr9, h⟩ := bindE h
  refine NWp.opsE ⟨tab [(3, vi (IntKind.i64.wrap (i1 + r9))), (7, vl0 a0.Kids), (8, vi (a0.Kids.length : Int)), (9, vi i2)], stab [], 0⟩ ?_ ?_
  ·
   refine q1 (vi i1) ?_
   refine step (v := vs0 x8) (st_ldV (ds := [.int .i64 x8.Op, .int .i64 x8.F, .int .u16 x8.N, eL (some 4) eapi_Pol x8.Kids]) rfl rfl (show 4 ≤ 4 by decide) rfl) ?_
   refine stepC (r := .int .i64 r9) (ArgsOk.dt ArgsOk.nil') (hself _ _ hr9) ?_
   refine q1 (vi (IntKind.i64.wrap (i1 + r9))) ?_
   refine q1 (vi (IntKind.i64.wrap (i1 + r9))) ?_
   exact nR []
  have hh := Option.some.inj h
  subst hh
  refine NWp.opsE ⟨tab [(3, vi (IntKind.i64.wrap (i1 + r9))), (7, vl0 a0.Kids), (8, vi (a0.Kids.length : Int)), (9, vi (i2 + 1))], stab [], 0⟩ ?_ ?_
  ·
   refine step (v := vi (i2 + 1)) (st_inc (inc_ok hinv5 hgo4 hB3) rfl rfl) ?_
   refine q1 (vi (i2 + 1)) ?_
   exact nR []
  exact And.intro rfl rfl
 ·
  rintro i2 i1 hinv5 hgo4
  show NWp _ _ _ _ _ ⟨tab [(3, vi i1), (7, vl0 a0.Kids), (8, vi (a0.Kids.length : Int)), (9, vi i2)], stab [], 0⟩
  have hc6 : ¬ (decide (i2 < (a0.Kids.length : Int)) = true) := fun hq => hgo4 (of_decide_eq_true hq)
  refine NWp.opsJ ⟨tab [(3, vi i1), (7, vl0 a0.Kids), (8, vi (a0.Kids.length : Int)), (9, vi i2), (10, vb (decide (i2 < (a0.Kids.length : Int))))], stab [], 0⟩ ?_ ?_
  ·
   refine q1 (vb (decide (i2 < (a0.Kids.length : Int)))) ?_
   exact nR []
  refine NWp.seq ?_
  refine NWp.condF (t := decide (i2 < (a0.Kids.length : Int))) rfl hc6 ?_
  refine NWp.norm (s0 := ⟨tab [(3, vi i1)], stab [], 0⟩) (nr []) ?_
  refine NWp.exit ?_
  exact And.intro rfl rfl
 refine NWp.opsJ ⟨tab [(2, vi z10)], stab [], 0⟩ ?_ ?_
 ·
  refine q1 (vi z10) ?_
  refine q1 (vi z10) ?_
  exact nR []
 have hh := Option.some.inj h
 subst hh
 refine NWp.ret ?_
 show FQ _ _ _ _
 exact FQ.mk1 (.inr rfl) (res_t (v := vi z10) rfl rfl) (RV.d trivial)

theorem c_syntax_Size_f : ∀ (k : Nat) (a0 : api_Pol) (r : Int), syntax_Size_f k a0 = some r → PCall Try.prog 83 [uapi_Pol a0] (.int .i64 r)
 | 0, _, _, h => by cases h
 | k + 1, _, _, h => c_syntax_Size_s (c_syntax_Size_f k) h

theorem c_syntax_Size {a0 : api_Pol} {r : Int} (h : syntax_Size a0 = some r) : PCall Try.prog 83 [uapi_Pol a0] (.int .i64 r) := c_syntax_Size_f FUEL _ _ h

theorem c_syntax_Depth_s {self : api_Pol → Option Int} (hself : ∀ (a0 : api_Pol) (r : Int), self a0 = some r → PCall Try.prog 84 [uapi_Pol a0] (.int .i64 r)) {a0 : api_Pol} {r : Int} (h : syntax_Depth_s self a0 = some r) : PCall Try.prog 84 [uapi_Pol a0] (.int .i64 r) := by
 refine PCall.introN ok84 (show 1 ≤ 20 by decide) ?_
 refine NWp.norm (s0 := ⟨tab [(0, vs0 a0)], stab [], 0⟩) (nr []) ?_
 refine NWp.opsJ ⟨tab [(1, vp0 a0)], stab [], 0⟩ ?_ ?_
 ·
  refine q1 (vp0 a0) ?_
  refine q1 (vi 0) ?_
  exact nR []
 refine NWp.opsJ ⟨tab [(1, vp0 a0), (3, vi 0)], stab [], 0⟩ ?_ ?_
 ·
  refine q1 (vi 0) ?_
  exact nR []
 refine NWp.seq ?_
 refine NWp.opsJ ⟨tab [(3, vi 0), (7, vl0 a0.Kids), (8, vi (a0.Kids.length : Int)), (9, vi 0)], stab [], 0⟩ ?_ ?_
 ·
  refine q1 (.d (.cptr (some 4) (uapi_Pol a0) 3)) ?_
  refine q1 (vl0 a0.Kids) ?_
  refine step (v := vi (a0.Kids.length : Int)) (st_len (xs := a0.Kids) (e := eapi_Pol) rfl) ?_
  refine q1 (vi 0) ?_
  exact nR []
 obtain ⟨z10, hl, h⟩ := bindE h
 refine NWp.block ?_
 refine loop_forO (cntU (a0.Kids.length : Int)) (fun (i2 : Int) (qq : Int) => ⟨tab [(3, vi qq), (7, vl0 a0.Kids), (8, vi (a0.Kids.length : Int)), (9, vi i2)], stab [], 0⟩) 0 (fun (qq : Int) => ⟨tab [(3, vi qq)], stab [], 0⟩) Low low_step hl (by unfold Low; omega) ?_ ?_ ?_
 ·
  rintro i2 i1 xr7 hinv5 hgo4 h
  show NWp _ _ _ _ _ ⟨tab [(3, vi i1), (7, vl0 a0.Kids), (8, vi (a0.Kids.length : Int)), (9, vi i2)], stab [], 0⟩
  have hc6 : decide (i2 < (a0.Kids.length : Int)) = true := decide_eq_true hgo4
  refine NWp.opsJ ⟨tab [(3, vi i1), (7, vl0 a0.Kids), (8, vi (a0.Kids.length : Int)), (9, vi i2), (10, vb (decide (i2 < (a0.Kids.length : Int))))], stab [], 0⟩ ?_ ?_
  ·
   refine q1 (vb (decide (i2 < (a0.Kids.length : Int)))) ?_
   exact nR []
  refine NWp.rng 8 rfl fun hB3 => ?_
  refine NWp.seq ?_
  refine NWp.condT (t := decide (i2 < (a0.Kids.length : Int))) rfl hc6 ?_
  refine NWp.skip ?_
  refine NWp.seq ?_
  refine NWp.block ?_
  obtain ⟨x8, hx8, h⟩ := bindE h
  refine NWp.opsJ ⟨tab [(3, vi i1), (5, .ptr 0 0 0), (7, vl0 a0.Kids), (8, vi (a0.Kids.length : Int)), (9, vi i2)], stab [(0, bv1 x8)], 1⟩ ?_ ?_
  ·
   refine step (v := vp0 x8) (st_iaddrU (xs := a0.Kids) (e := eapi_Pol) hx8 rfl rfl (eu_api_Pol _)) ?_
   refine q1 (vs0 x8) ?_
   refine step (v := .ptr 0 0 0) (σ' := (upd (stab []) 0 (some (bv0)))) (n' := 1) rfl ?_
   refine step (v := V.undef) (σ' := (upd (upd (stab []) 0 (some (bv0))) 0 (some (bv1 x8)))) (n' := 1) rfl ?_
   exact nR [0]
  obtain ⟨r9, hr9, h⟩ := bindE h
  refine NWp.opsE ⟨tab [(3, vi (imax i1 r9)), (7, vl0 a0.Kids), (8, vi (a0.Kids.length : Int)), (9, vi i2)], stab [], 0⟩ ?_ ?_
  ·
   refine q1 (vi i1) ?_
   refine step (v := vs0 x8) (st_ldV (ds := [.int .i64 x8.Op, .int .i64 x8.F, .int .u16 x8.N, eL (some 4) eapi_Pol x8.Kids]) rfl rfl (show 4 ≤ 4 by decide) rfl) ?_
   refine stepC (r := .int .i64 r9) (ArgsOk.dt ArgsOk.nil') (hself _ _ hr9) ?_
   refine q1 (vi (imax i1 r9)) ?_
   refine q1 (vi (imax i1 r9)) ?_
   exact nR []
  have hh := Option.some.inj h
  subst hh
  refine NWp.opsE ⟨tab [(3, vi (imax i1 r9)), (7, vl0 a0.Kids), (8, vi (a0.Kids.length : Int)), (9, vi (i2 + 1))], stab [], 0⟩ ?_ ?_
  ·
   refine step (v := vi (i2 + 1)) (st_inc (inc_ok hinv5 hgo4 hB3) rfl rfl) ?_
   refine q1 (vi (i2 + 1)) ?_
   exact nR []
  exact And.intro rfl rfl
 ·
  rintro i2 i1 hinv5 hgo4
  show NWp _ _ _ _ _ ⟨tab [(3, vi i1), (7, vl0 a0.Kids), (8, vi (a0.Kids.length : Int)), (9, vi i2)], stab [], 0⟩
  have hc6 : ¬ (decide (i2 < (a0.Kids.length : Int)) = true) := fun hq => hgo4 (of_decide_eq_true hq)
  refine NWp.opsJ ⟨tab [(3, vi i1), (7, vl0 a0.Kids), (8, vi (a0.Kids.length : Int)), (9, vi i2), (10, vb (decide (i2 < (a0.Kids.length : Int))))], stab [], 0⟩ ?_ ?_
  ·
   refine q1 (vb (decide (i2 < (a0.Kids.length : Int)))) ?_
   exact nR []
  refine NWp.seq ?_
  refine NWp.condF (t := decide (i2 < (a0.Kids.length : Int))) rfl hc6 ?_
  refine NWp.norm (s0 := ⟨tab [(3, vi i1)], stab [], 0⟩) (nr []) ?_
  refine NWp.exit ?_
  exact And.intro rfl rfl
 refine NWp.opsJ ⟨tab [(2, vi (IntKind.i64.wrap (z10 + 1)))], stab [], 0⟩ ?_ ?_
 ·
  refine q1 (vi z10) ?_
  refine q1 (vi (IntKind.i64.wrap (z10 + 1))) ?_
  refine q1 (vi (IntKind.i64.wrap (z10 + 1))) ?_
  exact nR []
 have hh := Option.some.inj h
 subst hh
 refine NWp.ret ?_
 show FQ _ _ _ _
 exact FQ.mk1 (.inr rfl) (res_t (v := vi (IntKind.i64.wrap (z10 + 1))) rfl rfl) (RV.d trivial)

theorem c_syntax_Depth_f : ∀ (k : Nat) (a0 : api_Pol) (r : Int), syntax_Depth_f k a0 = some r → PCall Try.prog 84 [uapi_Pol a0] (.int .i64 r)
 | 0, _, _, h => by cases h
 | k + 1, _, _, h => c_syntax_Depth_s (c_syntax_Depth_f k) h

theorem c_syntax_Depth {a0 : api_Pol} {r : Int} (h : syntax_Depth a0 = some r) : PCall Try.prog 84 [uapi_Pol a0] (.int .i64 r) := c_syntax_Depth_f FUEL _ _ h

theorem c_slices_IndexFunc_api_Pol {a0 : (List api_Pol)} {a1 : api_Pol → Option Bool} {g_a1 : D} (hf_a1 : Fn1 Try.prog g_a1 uapi_Pol D.bool a1) {r : Int} (h : slices_IndexFunc_api_Pol a0 a1 = some r) : PCall Try.prog 113 [eL (some 4) eapi_Pol a0, g_a1] (.int .i64 r) := by
 obtain ⟨fn_a1, cap_a1, rfl, hc_a1⟩ := hf_a1
 refine PCall.introN ok113 (show 2 ≤ 19 by decide) ?_
 refine NWp.norm (s0 := ⟨tab [(0, vl0 a0), (1, .d (.func fn_a1 cap_a1))], stab [], 0⟩) (nr []) ?_
 refine NWp.opsJ ⟨tab [(0, vl0 a0), (1, .d (.func fn_a1 cap_a1))], stab [], 0⟩ ?_ ?_
 ·
  refine q1 (vi 0) ?_
  exact nR []
 refine NWp.seq ?_
 refine NWp.opsJ ⟨tab [(0, vl0 a0), (1, .d (.func fn_a1 cap_a1)), (7, vi (a0.length : Int)), (8, vi 0)], stab [], 0⟩ ?_ ?_
 ·
  refine q1 (vl0 a0) ?_
  refine step (v := vi (a0.length : Int)) (st_len (xs := a0) (e := eapi_Pol) rfl) ?_
  refine q1 (vi 0) ?_
  exact nR []
 obtain ⟨q10, hl, h⟩ := bindE h
 refine NWp.block ?_
 refine loop_forR (cntU (a0.length : Int)) (fun (i1 : Int) (qq : Unit) => ⟨tab [(0, vl0 a0), (1, .d (.func fn_a1 cap_a1)), (7, vi (a0.length : Int)), (8, vi i1)], stab [], 0⟩) 0 (fun (qq : Unit) => ⟨tab [], stab [], 0⟩) Low low_step (r := r) hl (by unfold Low; omega) ?_ ?_ ?_ ?_
 ·
  rintro i1 ⟨⟩ xr6 hinv4 hgo3 h
  show NWp _ _ _ _ _ ⟨tab [(0, vl0 a0), (1, .d (.func fn_a1 cap_a1)), (7, vi (a0.length : Int)), (8, vi i1)], stab [], 0⟩
  have hc5 : decide (i1 < (a0.length : Int)) = true := decide_eq_true hgo3
  refine NWp.opsJ ⟨tab [(0, vl0 a0), (1, .d (.func fn_a1 cap_a1)), (7, vi (a0.length : Int)), (8, vi i1), (9, vb (decide (i1 < (a0.length : Int))))], stab [], 0⟩ ?_ ?_
  ·
   refine q1 (vb (decide (i1 < (a0.length : Int)))) ?_
   exact nR []
  refine NWp.rng 7 rfl fun hB2 => ?_
  refine NWp.seq ?_
  refine NWp.condT (t := decide (i1 < (a0.length : Int))) rfl hc5 ?_
  refine NWp.skip ?_
  refine NWp.seq ?_
  refine NWp.block ?_
  refine NWp.opsJ ⟨tab [(0, vl0 a0), (1, .d (.func fn_a1 cap_a1)), (5, vi i1), (7, vi (a0.length : Int)), (8, vi i1)], stab [], 0⟩ ?_ ?_
  ·
   refine q1 (vi i1) ?_
   refine q1 (vi i1) ?_
   exact nR []
  obtain ⟨x7, hx7, h⟩ := bindE h
  obtain ⟨x8, hx8, h⟩ := bindE h
  refine NWp.opsJ ⟨tab [(0, vl0 a0), (1, .d (.func fn_a1 cap_a1)), (5, vi i1), (7, vi (a0.length : Int)), (8, vi i1), (16, vb x8)], stab [], 0⟩ ?_ ?_
  ·
   refine q1 (.d (.func fn_a1 cap_a1)) ?_
   refine q1 (vl0 a0) ?_
   refine q1 (vi i1) ?_
   refine step (v := vp0 x7) (st_iaddrU (xs := a0) (e := eapi_Pol) hx7 rfl rfl (eu_api_Pol _)) ?_
   refine q1 (vs0 x7) ?_
   refine stepV' (r := .bool x8) rfl (ArgsOk.dt ArgsOk.nil') (hc_a1 _ _ hx8) ?_
   exact nR []
  by_cases hc9 : x8 = true
  ·
   replace h := iteT hc9 h
   refine NWp.condT (t := x8) rfl hc9 ?_
   refine NWp.opsJ ⟨tab [(4, vi i1)], stab [], 0⟩ ?_ ?_
   ·
    refine q1 (vi i1) ?_
    refine q1 (vi i1) ?_
    exact nR []
   obtain ⟨r10, kr10, hr⟩ := mapE (o := some i1) (g := Br.ret) h
   subst hr
   have h := kr10
   have hh := Option.some.inj h
   subst hh
   refine NWp.ret ?_
   refine And.intro (fun hn => nomatch hn) ?_
   intro hq
   have hq := hq.symm
   subst hq
   show FQ _ _ _ _
   exact FQ.mk1 (.inr rfl) (res_t (v := vi i1) rfl rfl) (RV.d trivial)
  ·
   replace h := iteF hc9 h
   refine NWp.condF (t := x8) rfl hc9 ?_
   refine NWp.skip ?_
   have hh := Option.some.inj h
   subst hh
   refine NWp.opsE ⟨tab [(0, vl0 a0), (1, .d (.func fn_a1 cap_a1)), (7, vi (a0.length : Int)), (8, vi (i1 + 1))], stab [], 0⟩ ?_ ?_
   ·
    refine step (v := vi (i1 + 1)) (st_inc (inc_ok hinv4 hgo3 hB2) rfl rfl) ?_
    refine q1 (vi (i1 + 1)) ?_
    exact nR []
   exact And.intro rfl rfl
 ·
  rintro i1 ⟨⟩ hinv4 hgo3
  show NWp _ _ _ _ _ ⟨tab [(0, vl0 a0), (1, .d (.func fn_a1 cap_a1)), (7, vi (a0.length : Int)), (8, vi i1)], stab [], 0⟩
  have hc5 : ¬ (decide (i1 < (a0.length : Int)) = true) := fun hq => hgo3 (of_decide_eq_true hq)
  refine NWp.opsJ ⟨tab [(0, vl0 a0), (1, .d (.func fn_a1 cap_a1)), (7, vi (a0.length : Int)), (8, vi i1), (9, vb (decide (i1 < (a0.length : Int))))], stab [], 0⟩ ?_ ?_
  ·
   refine q1 (vb (decide (i1 < (a0.length : Int)))) ?_
   exact nR []
  refine NWp.seq ?_
  refine NWp.condF (t := decide (i1 < (a0.length : Int))) rfl hc5 ?_
  refine NWp.norm (s0 := ⟨tab [], stab [], 0⟩) (nr []) ?_
  refine NWp.exit ?_
  exact And.intro rfl rfl
 ·
  intro r' hq
  subst hq
  exact Option.some.inj h
 rintro ⟨⟩ rfl
 refine NWp.opsJ ⟨tab [(4, vi (-1))], stab [], 0⟩ ?_ ?_
 ·
  refine q1 (vi (-1)) ?_
  exact nR []
 have hh := Option.some.inj h
 subst hh
 refine NWp.ret ?_
 show FQ _ _ _ _
 exact FQ.mk1 (.inr rfl) (res_t (v := vi (-1)) rfl rfl) (RV.d trivial)

theorem c_slices_ContainsFunc_api_Pol {a0 : (List api_Pol)} {a1 : api_Pol → Option Bool} {g_a1 : D} (hf_a1 : Fn1 Try.prog g_a1 uapi_Pol D.bool a1) {r : Bool} (h : slices_ContainsFunc_api_Pol a0 a1 = some r) : PCall Try.prog 98 [eL (some 4) eapi_Pol a0, g_a1] (.bool r) := by
 obtain ⟨fn_a1, cap_a1, rfl, hc_a1⟩ := hf_a1
 refine PCall.introN ok98 (show 2 ≤ 9 by decide) ?_
 refine NWp.norm (s0 := ⟨tab [(0, vl0 a0), (1, .d (.func fn_a1 cap_a1))], stab [], 0⟩) (nr []) ?_
 refine NWp.opsJ ⟨tab [(0, vl0 a0), (1, .d (.func fn_a1 cap_a1))], stab [], 0⟩ ?_ ?_
 ·
  refine q1 (vb false) ?_
  exact nR []
 obtain ⟨r1, hr1, h⟩ := bindE h
 refine NWp.opsJ ⟨tab [(4, vb (decide (r1 ≥ 0)))], stab [], 0⟩ ?_ ?_
 ·
  refine q1 (vl0 a0) ?_
  refine q1 (.d (.func fn_a1 cap_a1)) ?_
  refine stepC (r := .int .i64 r1) (ArgsOk.dt (ArgsOk.dt ArgsOk.nil')) (c_slices_IndexFunc_api_Pol ⟨_, _, rfl, hc_a1⟩ hr1) ?_
  refine q1 (vb (decide (r1 ≥ 0))) ?_
  refine q1 (vb (decide (r1 ≥ 0))) ?_
  exact nR []
 have hh := Option.some.inj h
 subst hh
 refine NWp.ret ?_
 show FQ _ _ _ _
 exact FQ.mk1 (.inr rfl) (res_t (v := vb (decide (r1 ≥ 0))) rfl rfl) (RV.d trivial)

theorem c_syntax_Predicate_1 {self : api_Pol → Option Bool} (hself : ∀ (b0 : api_Pol) (r : Bool), self b0 = some r → PCall Try.prog 97 [uapi_Pol b0] (.bool r)) {a0 : api_Pol} {r : Bool} (h : syntax_Predicate_1 self a0 = some r) : PCall Try.prog 112 [uapi_Pol a0] (.bool r) := by
 refine PCall.introN ok112 (show 1 ≤ 6 by decide) ?_
 refine NWp.norm (s0 := ⟨tab [(0, vs0 a0)], stab [], 0⟩) (nr []) ?_
 refine NWp.opsJ ⟨tab [(1, vp0 a0)], stab [], 0⟩ ?_ ?_
 ·
  refine q1 (vp0 a0) ?_
  refine q1 (vb false) ?_
  exact nR []
 obtain ⟨r1, hr1, h⟩ := bindE h
 refine NWp.opsJ ⟨tab [(2, vb (!r1))], stab [], 0⟩ ?_ ?_
 ·
  refine q1 (vs0 a0) ?_
  refine stepC (r := .bool r1) (ArgsOk.dt ArgsOk.nil') (hself _ _ hr1) ?_
  refine q1 (vb (!r1)) ?_
  refine q1 (vb (!r1)) ?_
  exact nR []
 have hh := Option.some.inj h
 subst hh
 refine NWp.ret ?_
 show FQ _ _ _ _
 exact FQ.mk1 (.inr rfl) (res_t (v := vb (!r1)) rfl rfl) (RV.d trivial)

theorem c_syntax_Predicate_s {self : api_Pol → Option Bool} (hself : ∀ (a0 : api_Pol) (r : Bool), self a0 = some r → PCall Try.prog 97 [uapi_Pol a0] (.bool r)) {a0 : api_Pol} {r : Bool} (h : syntax_Predicate_s self a0 = some r) : PCall Try.prog 97 [uapi_Pol a0] (.bool r) := by
 refine PCall.introN ok97 (show 1 ≤ 18 by decide) ?_
 refine NWp.norm (s0 := ⟨tab [(0, vs0 a0)], stab [], 0⟩) (nr []) ?_
 refine NWp.opsJ ⟨tab [(1, vp0 a0)], stab [], 0⟩ ?_ ?_
 ·
  refine q1 (vp0 a0) ?_
  refine q1 (vb false) ?_
  exact nR []
 refine NWp.seq ?_
 refine NWp.opsJ ⟨tab [(1, vp0 a0), (4, vi a0.Op)], stab [], 0⟩ ?_ ?_
 ·
  refine q1 (vp0 a0) ?_
  refine q1 (vi a0.Op) ?_
  exact nR []
 refine NWp.block ?_
 obtain ⟨y5, hv, h⟩ := bindE h
 refine NWp.seqN ⟨tab [(1, vp0 a0), (4, vi a0.Op), (5, vb y5)], stab [], 0⟩ ?_ ?_
 ·
  replace h := hv
  refine NWp.opsJ ⟨tab [(1, vp0 a0), (4, vi a0.Op), (5, vb (a0.Op == 0))], stab [], 0⟩ ?_ ?_
  ·
   refine q1 (vb (a0.Op == 0)) ?_
   refine q1 (vb (a0.Op == 0)) ?_
   exact nR []
  by_cases hc1 : (a0.Op == 0) = true
  ·
   replace h := iteT hc1 h
   refine NWp.condT (t := (a0.Op == 0)) rfl hc1 ?_
   have hh := Option.some.inj h
   subst hh
   refine NWp.norm (s0 := ⟨tab [(1, vp0 a0), (4, vi a0.Op), (5, vb (a0.Op == 0))], stab [], 0⟩) (nr []) ?_
   refine NWp.skip ?_
   exact And.intro rfl rfl
  ·
   replace h := iteF hc1 h
   refine NWp.condF (t := (a0.Op == 0)) rfl hc1 ?_
   refine NWp.opsJ ⟨tab [(1, vp0 a0), (4, vi a0.Op), (5, vb (a0.Op == 1))], stab [], 0⟩ ?_ ?_
   ·
    refine q1 (vb (a0.Op == 1)) ?_
    refine q1 (vb (a0.Op == 1)) ?_
    exact nR []
   by_cases hc2 : (a0.Op == 1) = true
   ·
    replace h := iteT hc2 h
    refine NWp.condT (t := (a0.Op == 1)) rfl hc2 ?_
    have hh := Option.some.inj h
    subst hh
    refine NWp.norm (s0 := ⟨tab [(1, vp0 a0), (4, vi a0.Op), (5, vb (a0.Op == 1))], stab [], 0⟩) (nr []) ?_
    refine NWp.skip ?_
    exact And.intro rfl rfl
   ·
    replace h := iteF hc2 h
    refine NWp.condF (t := (a0.Op == 1)) rfl hc2 ?_
    refine NWp.opsJ ⟨tab [(1, vp0 a0), (4, vi a0.Op), (5, vb (a0.Op == 2))], stab [], 0⟩ ?_ ?_
    ·
     refine q1 (vb (a0.Op == 2)) ?_
     refine q1 (vb (a0.Op == 2)) ?_
     exact nR []
    by_cases hc3 : (a0.Op == 2) = true
    ·
     replace h := iteT hc3 h
     refine NWp.condT (t := (a0.Op == 2)) rfl hc3 ?_
     have hh := Option.some.inj h
     subst hh
     refine NWp.norm (s0 := ⟨tab [(1, vp0 a0), (4, vi a0.Op), (5, vb (a0.Op == 2))], stab [], 0⟩) (nr []) ?_
     refine NWp.skip ?_
     exact And.intro rfl rfl
    ·
     replace h := iteF hc3 h
     refine NWp.condF (t := (a0.Op == 2)) rfl hc3 ?_
     refine NWp.opsJ ⟨tab [(1, vp0 a0), (4, vi a0.Op), (5, vb (a0.Op == 3))], stab [], 0⟩ ?_ ?_
     ·
      refine q1 (vb (a0.Op == 3)) ?_
      refine q1 (vb (a0.Op == 3)) ?_
      exact nR []
     by_cases hc4 : (a0.Op == 3) = true
     ·
      replace h := iteT hc4 h
      refine NWp.condT (t := (a0.Op == 3)) rfl hc4 ?_
      have hh := Option.some.inj h
      subst hh
      refine NWp.norm (s0 := ⟨tab [(1, vp0 a0), (4, vi a0.Op), (5, vb (a0.Op == 3))], stab [], 0⟩) (nr []) ?_
      refine NWp.skip ?_
      exact And.intro rfl rfl
     ·
      replace h := iteF hc4 h
      refine NWp.condF (t := (a0.Op == 3)) rfl hc4 ?_
      have hh := Option.some.inj h
      subst hh
      refine NWp.opsE ⟨tab [(1, vp0 a0), (4, vi a0.Op), (5, vb (a0.Op == 4))], stab [], 0⟩ ?_ ?_
      ·
       refine q1 (vb (a0.Op == 4)) ?_
       refine q1 (vb (a0.Op == 4)) ?_
       exact nR []
      exact And.intro rfl rfl
 by_cases hc7 : y5 = true
 ·
  replace h := iteT hc7 h
  refine NWp.condT (t := y5) rfl hc7 ?_
  refine NWp.opsJ ⟨tab [(2, vb true)], stab [], 0⟩ ?_ ?_
  ·
   refine q1 (vb true) ?_
   exact nR []
  have hh := Option.some.inj h
  subst hh
  refine NWp.ret ?_
  show FQ _ _ _ _
  exact FQ.mk1 (.inr rfl) (res_t (v := vb true) rfl rfl) (RV.d trivial)
 ·
  replace h := iteF hc7 h
  refine NWp.condF (t := y5) rfl hc7 ?_
  obtain ⟨y9, hv, h⟩ := bindE h
  refine NWp.seqN ⟨tab [(1, vp0 a0), (11, vb y9)], stab [], 0⟩ ?_ ?_
  ·
   replace h := hv
   refine NWp.opsJ ⟨tab [(1, vp0 a0), (4, vi a0.Op), (11, vb (a0.Op == 6))], stab [], 0⟩ ?_ ?_
   ·
    refine q1 (vb (a0.Op == 6)) ?_
    refine q1 (vb (a0.Op == 6)) ?_
    exact nR []
   by_cases hc8 : (a0.Op == 6) = true
   ·
    replace h := iteT hc8 h
    refine NWp.condT (t := (a0.Op == 6)) rfl hc8 ?_
    have hh := Option.some.inj h
    subst hh
    refine NWp.norm (s0 := ⟨tab [(1, vp0 a0), (11, vb (a0.Op == 6))], stab [], 0⟩) (nr []) ?_
    refine NWp.skip ?_
    exact And.intro rfl rfl
   ·
    replace h := iteF hc8 h
    refine NWp.condF (t := (a0.Op == 6)) rfl hc8 ?_
    have hh := Option.some.inj h
    subst hh
    refine NWp.opsE ⟨tab [(1, vp0 a0), (11, vb (a0.Op == 7))], stab [], 0⟩ ?_ ?_
    ·
     refine q1 (vb (a0.Op == 7)) ?_
     refine q1 (vb (a0.Op == 7)) ?_
     exact nR []
    exact And.intro rfl rfl
  by_cases hc11 : y9 = true
  ·
   replace h := iteT hc11 h
   refine NWp.condT (t := y9) rfl hc11 ?_
   obtain ⟨r12, hr12, h⟩ := bindE h
   refine NWp.opsJ ⟨tab [(2, vb (!r12))], stab [], 0⟩ ?_ ?_
   ·
    refine q1 (.d (.cptr (some 4) (uapi_Pol a0) 3)) ?_
    refine q1 (vl0 a0.Kids) ?_
    refine stepC (r := .bool r12) (ArgsOk.dt (ArgsOk.dt ArgsOk.nil')) (c_slices_ContainsFunc_api_Pol ⟨112, [], rfl, fun _ _ h => c_syntax_Predicate_1 hself h⟩ hr12) ?_
    refine q1 (vb (!r12)) ?_
    refine q1 (vb (!r12)) ?_
    exact nR []
   have hh := Option.some.inj h
   subst hh
   refine NWp.ret ?_
   show FQ _ _ _ _
   exact FQ.mk1 (.inr rfl) (res_t (v := vb (!r12)) rfl rfl) (RV.d trivial)
  ·
   replace h := iteF hc11 h
   refine NWp.condF (t := y9) rfl hc11 ?_
   refine NWp.skip ?_
   refine NWp.opsJ ⟨tab [(2, vb false)], stab [], 0⟩ ?_ ?_
   ·
    refine q1 (vb false) ?_
    exact nR []
   have hh := Option.some.inj h
   subst hh
   refine NWp.ret ?_
   show FQ _ _ _ _
   exact FQ.mk1 (.inr rfl) (res_t (v := vb false) rfl rfl) (RV.d trivial)

theorem c_syntax_Predicate_f : ∀ (k : Nat) (a0 : api_Pol) (r : Bool), syntax_Predicate_f k a0 = some r → PCall Try.prog 97 [uapi_Pol a0] (.bool r)
 | 0, _, _, h => by cases h
 | k + 1, _, _, h => c_syntax_Predicate_s (c_syntax_Predicate_f k) h

theorem c_syntax_Predicate {a0 : api_Pol} {r : Bool} (h : syntax_Predicate a0 = some r) : PCall Try.prog 97 [uapi_Pol a0] (.bool r) := c_syntax_Predicate_f FUEL _ _ h

theorem c_syntax_formed_1 {self : api_Pol → Int → Option Bool} (hself : ∀ (b0 : api_Pol) (b1 : Int) (r : Bool), self b0 b1 = some r → PCall Try.prog 85 [uapi_Pol b0, .int .i64 b1] (.bool r)) {a0 : api_Pol} {a1 : Int} {r : Bool} (h : syntax_formed_1 self a0 a1 = some r) : PCall Try.prog 99 [uapi_Pol a0, .cptr none (.int .i64 a1) 0] (.bool r) := by
 refine PCall.introN ok99 (show 2 ≤ 8 by decide) ?_
 refine NWp.norm (s0 := ⟨tab [(0, vs0 a0), (1, .d (.cptr none (.int .i64 a1) 0))], stab [], 0⟩) (nr []) ?_
 refine NWp.opsJ ⟨tab [(1, .d (.cptr none (.int .i64 a1) 0)), (2, vp0 a0)], stab [], 0⟩ ?_ ?_
 ·
  refine q1 (vp0 a0) ?_
  refine q1 (vb false) ?_
  exact nR []
 obtain ⟨r1, hr1, h⟩ := bindE h
 refine NWp.opsJ ⟨tab [(3, vb (!r1))], stab [], 0⟩ ?_ ?_
 ·
  refine q1 (vs0 a0) ?_
  refine q1 (vi a1) ?_
  refine stepC (r := .bool r1) (ArgsOk.dt (ArgsOk.dt ArgsOk.nil')) (hself _ _ _ hr1) ?_
  refine q1 (vb (!r1)) ?_
  refine q1 (vb (!r1)) ?_
  exact nR []
 have hh := Option.some.inj h
 subst hh
 refine NWp.ret ?_
 show FQ _ _ _ _
 exact FQ.mk1 (.inr rfl) (res_t (v := vb (!r1)) rfl rfl) (RV.d trivial)

theorem c_syntax_formed_s {self : api_Pol → Int → Option Bool} (hself : ∀ (a0 : api_Pol) (a1 : Int) (r : Bool), self a0 a1 = some r → PCall Try.prog 85 [uapi_Pol a0, .int .i64 a1] (.bool r)) {a0 : api_Pol} {a1 : Int} {r : Bool} (h : syntax_formed_s self a0 a1 = some r) : PCall Try.prog 85 [uapi_Pol a0, .int .i64 a1] (.bool r) := by
 refine PCall.introN ok85 (show 2 ≤ 92 by decide) ?_
 refine NWp.norm (s0 := ⟨tab [(0, vs0 a0), (1, vi a1)], stab [], 0⟩) (nr []) ?_
 refine NWp.opsJ ⟨tab [(2, vp0 a0), (3, .d (.cptr none (.int .i64 a1) 0))], stab [], 0⟩ ?_ ?_
 ·
  refine q1 (vp0 a0) ?_
  refine q1 (.d (.cptr none (.int .i64 a1) 0)) ?_
  refine q1 (vb false) ?_
  exact nR []
 refine NWp.opsJ ⟨tab [(2, vp0 a0), (3, .d (.cptr none (.int .i64 a1) 0)), (5, vb ((a0.F == 0) && (a0.N == 0)))], stab [], 0⟩ ?_ ?_
 ·
  refine q1 (.d (.cptr (some 4) (uapi_Pol a0) 1)) ?_
  refine q1 (vi a0.F) ?_
  refine q1 (vb (a0.F == 0)) ?_
  refine q1 (vb (a0.F == 0)) ?_
  by_cases hg1 : (a0.F == 0) = true
  ·
   refine qG (a0.F == 0) hg1 ?_
   refine q1 (.d (.cptr (some 4) (uapi_Pol a0) 2)) ?_
   refine qG (a0.F == 0) hg1 ?_
   refine q1 (vh a0.N) ?_
   refine qG (a0.F == 0) hg1 ?_
   refine q1 (vb (a0.N == 0)) ?_
   refine step (v := vb (a0.N == 0)) (st_pickT (b := (a0.F == 0)) rfl hg1 rfl) ?_
   refine q1 (vb (a0.N == 0)) ?_
   exact RunOps.nil' (nm [] ⟨.d _, .d _, .eq (by first | (simp [hg1]; done) | (simp_all; done) | grind), trivial⟩ trivial)
  ·
   refine qX (a0.F == 0) hg1 ?_
   refine qX (a0.F == 0) hg1 ?_
   refine qX (a0.F == 0) hg1 ?_
   refine step (v := vb false) (st_pickF (b := (a0.F == 0)) rfl hg1 rfl) ?_
   refine q1 (vb false) ?_
   exact RunOps.nil' (nm [] ⟨.d _, .d _, .eq (by first | (simp [hg1]; done) | (simp_all; done) | grind), trivial⟩ trivial)
 refine NWp.opsJ ⟨tab [(2, vp0 a0), (3, .d (.cptr none (.int .i64 a1) 0)), (5, vb ((a0.F == 0) && (a0.N == 0))), (6, vi 0), (7, vi 8)], stab [], 0⟩ ?_ ?_
 ·
  refine q1 (vi 0) ?_
  refine q1 (vi 8) ?_
  exact nR []
 obtain ⟨q30, hv, h⟩ := bindE h
 refine NWp.seqS (fun (qq : (Int × Int)) => ⟨tab [(2, vp0 a0), (6, vi qq.1), (7, vi qq.2)], stab [], 0⟩) (xv := q30) (r := r) ?_ ?_ ?_
 ·
  replace h := hv
  refine NWp.opsJ ⟨tab [(2, vp0 a0), (3, .d (.cptr none (.int .i64 a1) 0)), (5, vb ((a0.F == 0) && (a0.N == 0))), (6, vi 0), (7, vi 8), (17, vi a0.Op)], stab [], 0⟩ ?_ ?_
  ·
   refine q1 (vp0 a0) ?_
   refine q1 (vi a0.Op) ?_
   exact nR []
  refine NWp.block ?_
  obtain ⟨y3, hv, h⟩ := bindE h
  refine NWp.seqN ⟨tab [(2, vp0 a0), (3, .d (.cptr none (.int .i64 a1) 0)), (5, vb ((a0.F == 0) && (a0.N == 0))), (6, vi 0), (7, vi 8), (17, vi a0.Op), (18, vb y3)], stab [], 0⟩ ?_ ?_
  ·
   replace h := hv
   refine NWp.opsJ ⟨tab [(2, vp0 a0), (3, .d (.cptr none (.int .i64 a1) 0)), (5, vb ((a0.F == 0) && (a0.N == 0))), (6, vi 0), (7, vi 8), (17, vi a0.Op), (18, vb (a0.Op == 0))], stab [], 0⟩ ?_ ?_
   ·
    refine q1 (vb (a0.Op == 0)) ?_
    refine q1 (vb (a0.Op == 0)) ?_
    exact nR []
   by_cases hc2 : (a0.Op == 0) = true
   ·
    replace h := iteT hc2 h
    refine NWp.condT (t := (a0.Op == 0)) rfl hc2 ?_
    have hh := Option.some.inj h
    subst hh
    refine NWp.norm (s0 := ⟨tab [(2, vp0 a0), (3, .d (.cptr none (.int .i64 a1) 0)), (5, vb ((a0.F == 0) && (a0.N == 0))), (6, vi 0), (7, vi 8), (17, vi a0.Op), (18, vb (a0.Op == 0))], stab [], 0⟩) (nr []) ?_
    refine NWp.skip ?_
    exact And.intro rfl rfl
   ·
    replace h := iteF hc2 h
    refine NWp.condF (t := (a0.Op == 0)) rfl hc2 ?_
    have hh := Option.some.inj h
    subst hh
    refine NWp.opsE ⟨tab [(2, vp0 a0), (3, .d (.cptr none (.int .i64 a1) 0)), (5, vb ((a0.F == 0) && (a0.N == 0))), (6, vi 0), (7, vi 8), (17, vi a0.Op), (18, vb (a0.Op == 1))], stab [], 0⟩ ?_ ?_
    ·
     refine q1 (vb (a0.Op == 1)) ?_
     refine q1 (vb (a0.Op == 1)) ?_
     exact nR []
    exact And.intro rfl rfl
  by_cases hc5 : y3 = true
  ·
   replace h := iteT hc5 h
   refine NWp.condT (t := y3) rfl hc5 ?_
   refine NWp.opsJ ⟨tab [(4, vb (((a0.Kids.length : Int) == 0) && ((a0.F == 0) && (a0.N == 0))))], stab [], 0⟩ ?_ ?_
   ·
    refine q1 (.d (.cptr (some 4) (uapi_Pol a0) 3)) ?_
    refine q1 (vl0 a0.Kids) ?_
    refine step (v := vi (a0.Kids.length : Int)) (st_len (xs := a0.Kids) (e := eapi_Pol) rfl) ?_
    refine q1 (vb ((a0.Kids.length : Int) == 0)) ?_
    refine q1 (vb ((a0.Kids.length : Int) == 0)) ?_
    by_cases hg6 : ((a0.Kids.length : Int) == 0) = true
    ·
     refine qG ((a0.Kids.length : Int) == 0) hg6 ?_
     refine q1 (vb ((a0.F == 0) && (a0.N == 0))) ?_
     refine step (v := vb ((a0.F == 0) && (a0.N == 0))) (st_pickT (b := ((a0.Kids.length : Int) == 0)) rfl hg6 rfl) ?_
     refine q1 (vb ((a0.F == 0) && (a0.N == 0))) ?_
     exact RunOps.nil' (nm [] ⟨.eq (by first | (simp [hg6]; done) | (simp_all; done) | grind), trivial⟩ trivial)
    ·
     refine qX ((a0.Kids.length : Int) == 0) hg6 ?_
     refine step (v := vb false) (st_pickF (b := ((a0.Kids.length : Int) == 0)) rfl hg6 rfl) ?_
     refine q1 (vb false) ?_
     exact RunOps.nil' (nm [] ⟨.eq (by first | (simp [hg6]; done) | (simp_all; done) | grind), trivial⟩ trivial)
   obtain ⟨r7, kr7, hr⟩ := mapE (o := some (((a0.Kids.length : Int) == 0) && ((a0.F == 0) && (a0.N == 0)))) (g := Sum.inr) h
   subst hr
   have h := kr7
   have hh := Option.some.inj h
   subst hh
   refine NWp.ret ?_
   refine And.intro (fun hn => nomatch hn) ?_
   intro hq
   have hq := hq.symm
   subst hq
   show FQ _ _ _ _
   exact FQ.mk1 (.inr rfl) (res_t (v := vb (((a0.Kids.length : Int) == 0) && ((a0.F == 0) && (a0.N == 0)))) rfl rfl) (RV.d trivial)
  ·
   replace h := iteF hc5 h
   refine NWp.condF (t := y3) rfl hc5 ?_
   refine NWp.opsJ ⟨tab [(2, vp0 a0), (3, .d (.cptr none (.int .i64 a1) 0)), (5, vb ((a0.F == 0) && (a0.N == 0))), (6, vi 0), (7, vi 8), (17, vi a0.Op), (28, vb (a0.Op == 4))], stab [], 0⟩ ?_ ?_
   ·
    refine q1 (vb (a0.Op == 4)) ?_
    refine q1 (vb (a0.Op == 4)) ?_
    exact nR []
   by_cases hc7 : (a0.Op == 4) = true
   ·
    replace h := iteT hc7 h
    refine NWp.condT (t := (a0.Op == 4)) rfl hc7 ?_
    obtain ⟨y14, hv, h⟩ := bindE h
    refine NWp.opsJ ⟨tab [(4, vb y14)], stab [], 0⟩ ?_ ?_
    ·
     refine q1 (.d (.cptr (some 4) (uapi_Pol a0) 3)) ?_
     refine q1 (vl0 a0.Kids) ?_
     refine step (v := vi (a0.Kids.length : Int)) (st_len (xs := a0.Kids) (e := eapi_Pol) rfl) ?_
     refine q1 (vb ((a0.Kids.length : Int) == 1)) ?_
     refine q1 (vb ((a0.Kids.length : Int) == 1)) ?_
     by_cases hg8 : ((a0.Kids.length : Int) == 1) = true
     ·
      replace hv := iteT hg8 hv
      refine qG ((a0.Kids.length : Int) == 1) hg8 ?_
      refine q1 (vb ((a0.F == 0) && (a0.N == 0))) ?_
      refine step (v := vb ((a0.F == 0) && (a0.N == 0))) (st_pickT (b := ((a0.Kids.length : Int) == 1)) rfl hg8 rfl) ?_
      refine q1 (vb ((a0.F == 0) && (a0.N == 0))) ?_
      by_cases hg9 : ((a0.F == 0) && (a0.N == 0)) = true
      ·
       replace hv := iteT hg9 hv
       obtain ⟨x10, hx10, hv⟩ := bindE hv
       obtain ⟨r11, hr11, hv⟩ := bindE hv
       refine qG ((a0.F == 0) && (a0.N == 0)) hg9 ?_
       refine q1 (.d (.cptr (some 4) (uapi_Pol a0) 3)) ?_
       refine qG ((a0.F == 0) && (a0.N == 0)) hg9 ?_
       refine q1 (vl0 a0.Kids) ?_
       refine qG ((a0.F == 0) && (a0.N == 0)) hg9 ?_
       refine step (v := vp0 x10) (st_iaddrU (xs := a0.Kids) (e := eapi_Pol) hx10 rfl rfl (eu_api_Pol _)) ?_
       refine qG ((a0.F == 0) && (a0.N == 0)) hg9 ?_
       refine q1 (vs0 x10) ?_
       refine qG ((a0.F == 0) && (a0.N == 0)) hg9 ?_
       refine stepC (r := .bool r11) (ArgsOk.dt ArgsOk.nil') (c_syntax_Predicate hr11) ?_
       refine step (v := vb r11) (st_pickT (b := ((a0.F == 0) && (a0.N == 0))) rfl hg9 rfl) ?_
       refine q1 (vb r11) ?_
       by_cases hg12 : r11 = true
       ·
        replace hv := iteT hg12 hv
        obtain ⟨r13, hr13, hv⟩ := bindE hv
        refine qG r11 hg12 ?_
        refine q1 (.d (.cptr (some 4) (uapi_Pol a0) 3)) ?_
        refine qG r11 hg12 ?_
        refine q1 (vl0 a0.Kids) ?_
        refine qG r11 hg12 ?_
        refine step (v := vp0 x10) (st_iaddrU (xs := a0.Kids) (e := eapi_Pol) hx10 rfl rfl (eu_api_Pol _)) ?_
        refine qG r11 hg12 ?_
        refine q1 (vs0 x10) ?_
        refine qG r11 hg12 ?_
        refine q1 (vi a1) ?_
        refine qG r11 hg12 ?_
        refine stepC (r := .bool r13) (ArgsOk.dt (ArgsOk.dt ArgsOk.nil')) (hself _ _ _ hr13) ?_
        refine step (v := vb r13) (st_pickT (b := r11) rfl hg12 rfl) ?_
        refine q1 (vb r13) ?_
        have hh := Option.some.inj hv
        subst hh
        exact nR []
       ·
        replace hv := iteF hg12 hv
        refine qX r11 hg12 ?_
        refine qX r11 hg12 ?_
        refine qX r11 hg12 ?_
        refine qX r11 hg12 ?_
        refine qX r11 hg12 ?_
        refine qX r11 hg12 ?_
        refine step (v := vb false) (st_pickF (b := r11) rfl hg12 rfl) ?_
        refine q1 (vb false) ?_
        have hh := Option.some.inj hv
        subst hh
        exact nR []
      ·
       replace hv := iteF hg9 hv
       refine qX ((a0.F == 0) && (a0.N == 0)) hg9 ?_
       refine qX ((a0.F == 0) && (a0.N == 0)) hg9 ?_
       refine qX ((a0.F == 0) && (a0.N == 0)) hg9 ?_
       refine qX ((a0.F == 0) && (a0.N == 0)) hg9 ?_
       refine qX ((a0.F == 0) && (a0.N == 0)) hg9 ?_
       refine step (v := vb false) (st_pickF (b := ((a0.F == 0) && (a0.N == 0))) rfl hg9 rfl) ?_
       refine q1 (vb false) ?_
       refine qX false (by decide) ?_
       refine qX false (by decide) ?_
       refine qX false (by decide) ?_
       refine qX false (by decide) ?_
       refine qX false (by decide) ?_
       refine qX false (by decide) ?_
       refine step (v := vb false) (st_pickF (b := false) rfl (by decide) rfl) ?_
       refine q1 (vb false) ?_
       have hh := Option.some.inj hv
       subst hh
       exact nR []
     ·
      replace hv := iteF hg8 hv
      refine qX ((a0.Kids.length : Int) == 1) hg8 ?_
      refine step (v := vb false) (st_pickF (b := ((a0.Kids.length : Int) == 1)) rfl hg8 rfl) ?_
      refine q1 (vb false) ?_
      refine qX false (by decide) ?_
      refine qX false (by decide) ?_
      refine qX false (by decide) ?_
      refine qX false (by decide) ?_
      refine qX false (by decide) ?_
      refine step (v := vb false) (st_pickF (b := false) rfl (by decide) rfl) ?_
      refine q1 (vb false) ?_
      refine qX false (by decide) ?_
      refine qX false (by decide) ?_
      refine qX false (by decide) ?_
      refine qX false (by decide) ?_
      refine qX false (by decide) ?_
      refine qX false (by decide) ?_
      refine step (v := vb false) (st_pickF (b := false) rfl (by decide) rfl) ?_
      refine q1 (vb false) ?_
      have hh := Option.some.inj hv
      subst hh
      exact nR []
    obtain ⟨r16, kr16, hr⟩ := mapE (o := some y14) (g := Sum.inr) h
    subst hr
    have h := kr16
    have hh := Option.some.inj h
    subst hh
    refine NWp.ret ?_
    refine And.intro (fun hn => nomatch hn) ?_
    intro hq
    have hq := hq.symm
    subst hq
    show FQ _ _ _ _
    exact FQ.mk1 (.inr rfl) (res_t (v := vb y14) rfl rfl) (RV.d trivial)
   ·
    replace h := iteF hc7 h
    refine NWp.condF (t := (a0.Op == 4)) rfl hc7 ?_
    obtain ⟨y17, hv, h⟩ := bindE h
    refine NWp.seqN ⟨tab [(2, vp0 a0), (3, .d (.cptr none (.int .i64 a1) 0)), (5, vb ((a0.F == 0) && (a0.N == 0))), (6, vi 0), (7, vi 8), (17, vi a0.Op), (52, vb y17)], stab [], 0⟩ ?_ ?_
    ·
     replace h := hv
     refine NWp.opsJ ⟨tab [(2, vp0 a0), (3, .d (.cptr none (.int .i64 a1) 0)), (5, vb ((a0.F == 0) && (a0.N == 0))), (6, vi 0), (7, vi 8), (17, vi a0.Op), (52, vb (a0.Op == 6))], stab [], 0⟩ ?_ ?_
     ·
      refine q1 (vb (a0.Op == 6)) ?_
      refine q1 (vb (a0.Op == 6)) ?_
      exact nR []
     by_cases hc16 : (a0.Op == 6) = true
     ·
      replace h := iteT hc16 h
      refine NWp.condT (t := (a0.Op == 6)) rfl hc16 ?_
      have hh := Option.some.inj h
      subst hh
      refine NWp.norm (s0 := ⟨tab [(2, vp0 a0), (3, .d (.cptr none (.int .i64 a1) 0)), (5, vb ((a0.F == 0) && (a0.N == 0))), (6, vi 0), (7, vi 8), (17, vi a0.Op), (52, vb (a0.Op == 6))], stab [], 0⟩) (nr []) ?_
      refine NWp.skip ?_
      exact And.intro rfl rfl
     ·
      replace h := iteF hc16 h
      refine NWp.condF (t := (a0.Op == 6)) rfl hc16 ?_
      have hh := Option.some.inj h
      subst hh
      refine NWp.opsE ⟨tab [(2, vp0 a0), (3, .d (.cptr none (.int .i64 a1) 0)), (5, vb ((a0.F == 0) && (a0.N == 0))), (6, vi 0), (7, vi 8), (17, vi a0.Op), (52, vb (a0.Op == 7))], stab [], 0⟩ ?_ ?_
      ·
       refine q1 (vb (a0.Op == 7)) ?_
       refine q1 (vb (a0.Op == 7)) ?_
       exact nR []
      exact And.intro rfl rfl
    by_cases hc19 : y17 = true
    ·
     replace h := iteT hc19 h
     refine NWp.condT (t := y17) rfl hc19 ?_
     obtain ⟨y23, hv, h⟩ := bindE h
     refine NWp.opsJ ⟨tab [(4, vb y23)], stab [], 0⟩ ?_ ?_
     ·
      refine q1 (.d (.cptr (some 4) (uapi_Pol a0) 3)) ?_
      refine q1 (vl0 a0.Kids) ?_
      refine step (v := vi (a0.Kids.length : Int)) (st_len (xs := a0.Kids) (e := eapi_Pol) rfl) ?_
      refine q1 (vb (decide ((a0.Kids.length : Int) ≥ 2))) ?_
      refine q1 (vb (decide ((a0.Kids.length : Int) ≥ 2))) ?_
      by_cases hg20 : decide ((a0.Kids.length : Int) ≥ 2) = true
      ·
       replace hv := iteT hg20 hv
       refine qG (decide ((a0.Kids.length : Int) ≥ 2)) hg20 ?_
       refine q1 (vb ((a0.F == 0) && (a0.N == 0))) ?_
       refine step (v := vb ((a0.F == 0) && (a0.N == 0))) (st_pickT (b := decide ((a0.Kids.length : Int) ≥ 2)) rfl hg20 rfl) ?_
       refine q1 (vb ((a0.F == 0) && (a0.N == 0))) ?_
       by_cases hg21 : ((a0.F == 0) && (a0.N == 0)) = true
       ·
        replace hv := iteT hg21 hv
        obtain ⟨r22, hr22, hv⟩ := bindE hv
        refine qG ((a0.F == 0) && (a0.N == 0)) hg21 ?_
        refine q1 (.d (.cptr (some 4) (uapi_Pol a0) 3)) ?_
        refine qG ((a0.F == 0) && (a0.N == 0)) hg21 ?_
        refine q1 (vl0 a0.Kids) ?_
        refine qG ((a0.F == 0) && (a0.N == 0)) hg21 ?_
        refine q1 (.d (.func 99 [.cptr none (.int .i64 a1) 0])) ?_
        refine qG ((a0.F == 0) && (a0.N == 0)) hg21 ?_
        refine stepC (r := .bool r22) (ArgsOk.dt (ArgsOk.dt ArgsOk.nil')) (c_slices_ContainsFunc_api_Pol ⟨99, [.cptr none (.int .i64 a1) 0], rfl, fun _ _ h => c_syntax_formed_1 hself h⟩ hr22) ?_
        refine qG ((a0.F == 0) && (a0.N == 0)) hg21 ?_
        refine q1 (vb (!r22)) ?_
        refine step (v := vb (!r22)) (st_pickT (b := ((a0.F == 0) && (a0.N == 0))) rfl hg21 rfl) ?_
        refine q1 (vb (!r22)) ?_
        have hh := Option.some.inj hv
        subst hh
        exact nR []
       ·
        replace hv := iteF hg21 hv
        refine qX ((a0.F == 0) && (a0.N == 0)) hg21 ?_
        refine qX ((a0.F == 0) && (a0.N == 0)) hg21 ?_
        refine qX ((a0.F == 0) && (a0.N == 0)) hg21 ?_
        refine qX ((a0.F == 0) && (a0.N == 0)) hg21 ?_
        refine qX ((a0.F == 0) && (a0.N == 0)) hg21 ?_
        refine step (v := vb false) (st_pickF (b := ((a0.F == 0) && (a0.N == 0))) rfl hg21 rfl) ?_
        refine q1 (vb false) ?_
        have hh := Option.some.inj hv
        subst hh
        exact nR []
      ·
       replace hv := iteF hg20 hv
       refine qX (decide ((a0.Kids.length : Int) ≥ 2)) hg20 ?_
       refine step (v := vb false) (st_pickF (b := decide ((a0.Kids.length : Int) ≥ 2)) rfl hg20 rfl) ?_
       refine q1 (vb false) ?_
       refine qX false (by decide) ?_
       refine qX false (by decide) ?_
       refine qX false (by decide) ?_
       refine qX false (by decide) ?_
       refine qX false (by decide) ?_
       refine step (v := vb false) (st_pickF (b := false) rfl (by decide) rfl) ?_
       refine q1 (vb false) ?_
       have hh := Option.some.inj hv
       subst hh
       exact nR []
     obtain ⟨r25, kr25, hr⟩ := mapE (o := some y23) (g := Sum.inr) h
     subst hr
     have h := kr25
     have hh := Option.some.inj h
     subst hh
     refine NWp.ret ?_
     refine And.intro (fun hn => nomatch hn) ?_
     intro hq
     have hq := hq.symm
     subst hq
     show FQ _ _ _ _
     exact FQ.mk1 (.inr rfl) (res_t (v := vb y23) rfl rfl) (RV.d trivial)
    ·
     replace h := iteF hc19 h
     refine NWp.condF (t := y17) rfl hc19 ?_
     refine NWp.opsJ ⟨tab [(2, vp0 a0), (3, .d (.cptr none (.int .i64 a1) 0)), (6, vi 0), (7, vi 8), (17, vi a0.Op), (69, vb (a0.Op == 2))], stab [], 0⟩ ?_ ?_
     ·
      refine q1 (vb (a0.Op == 2)) ?_
      refine q1 (vb (a0.Op == 2)) ?_
      exact nR []
     by_cases hc25 : (a0.Op == 2) = true
     ·
      replace h := iteT hc25 h
      refine NWp.condT (t := (a0.Op == 2)) rfl hc25 ?_
      have hh := Option.some.inj h
      subst hh
      refine NWp.norm (s0 := ⟨tab [(2, vp0 a0), (6, vi 0), (7, vi 8)], stab [], 0⟩) (nr []) ?_
      refine NWp.skip ?_
      exact And.intro rfl rfl
     ·
      replace h := iteF hc25 h
      refine NWp.condF (t := (a0.Op == 2)) rfl hc25 ?_
      refine NWp.opsJ ⟨tab [(2, vp0 a0), (3, .d (.cptr none (.int .i64 a1) 0)), (6, vi 0), (7, vi 8), (17, vi a0.Op), (71, vb (a0.Op == 5))], stab [], 0⟩ ?_ ?_
      ·
       refine q1 (vb (a0.Op == 5)) ?_
       refine q1 (vb (a0.Op == 5)) ?_
       exact nR []
      by_cases hc26 : (a0.Op == 5) = true
      ·
       replace h := iteT hc26 h
       refine NWp.condT (t := (a0.Op == 5)) rfl hc26 ?_
       have hh := Option.some.inj h
       subst hh
       refine NWp.opsE ⟨tab [(2, vp0 a0), (6, vi 1), (7, vi 8)], stab [], 0⟩ ?_ ?_
       ·
        refine q1 (vi 1) ?_
        exact nR []
       exact And.intro rfl rfl
      ·
       replace h := iteF hc26 h
       refine NWp.condF (t := (a0.Op == 5)) rfl hc26 ?_
       refine NWp.opsJ ⟨tab [(2, vp0 a0), (3, .d (.cptr none (.int .i64 a1) 0)), (6, vi 0), (73, vb (a0.Op == 3))], stab [], 0⟩ ?_ ?_
       ·
        refine q1 (vb (a0.Op == 3)) ?_
        refine q1 (vb (a0.Op == 3)) ?_
        exact nR []
       by_cases hc27 : (a0.Op == 3) = true
       ·
        replace h := iteT hc27 h
        refine NWp.condT (t := (a0.Op == 3)) rfl hc27 ?_
        have hh := Option.some.inj h
        subst hh
        refine NWp.opsE ⟨tab [(2, vp0 a0), (6, vi 0), (7, vi a1)], stab [], 0⟩ ?_ ?_
        ·
         refine q1 (vi a1) ?_
         refine q1 (vi a1) ?_
         exact nR []
        exact And.intro rfl rfl
       ·
        replace h := iteF hc27 h
        refine NWp.condF (t := (a0.Op == 3)) rfl hc27 ?_
        refine NWp.opsJ ⟨tab [(4, vb false)], stab [], 0⟩ ?_ ?_
        ·
         refine q1 (vb false) ?_
         exact nR []
        obtain ⟨r28, kr28, hr⟩ := mapE (o := some false) (g := Sum.inr) h
        subst hr
        have h := kr28
        have hh := Option.some.inj h
        subst hh
        refine NWp.ret ?_
        refine And.intro (fun hn => nomatch hn) ?_
        intro hq
        have hq := hq.symm
        subst hq
        show FQ _ _ _ _
        exact FQ.mk1 (.inr rfl) (res_t (v := vb false) rfl rfl) (RV.d trivial)
 ·
  intro r' hq
  subst hq
  exact Option.some.inj h
 rintro ⟨y28, y29⟩ rfl
 show NWp _ _ _ _ _ ⟨tab [(2, vp0 a0), (6, vi y28), (7, vi y29)], stab [], 0⟩
 refine NWp.opsJ ⟨tab [(4, vb (((a0.Kids.length : Int) == 0) && ((decide (a0.F ≥ y28)) && (decide (a0.F < y29)))))], stab [], 0⟩ ?_ ?_
 ·
  refine q1 (.d (.cptr (some 4) (uapi_Pol a0) 3)) ?_
  refine q1 (vl0 a0.Kids) ?_
  refine step (v := vi (a0.Kids.length : Int)) (st_len (xs := a0.Kids) (e := eapi_Pol) rfl) ?_
  refine q1 (vb ((a0.Kids.length : Int) == 0)) ?_
  refine q1 (vb ((a0.Kids.length : Int) == 0)) ?_
  by_cases hg31 : ((a0.Kids.length : Int) == 0) = true
  ·
   refine qG ((a0.Kids.length : Int) == 0) hg31 ?_
   refine q1 (.d (.cptr (some 4) (uapi_Pol a0) 1)) ?_
   refine qG ((a0.Kids.length : Int) == 0) hg31 ?_
   refine q1 (vi a0.F) ?_
   refine qG ((a0.Kids.length : Int) == 0) hg31 ?_
   refine q1 (vi y28) ?_
   refine qG ((a0.Kids.length : Int) == 0) hg31 ?_
   refine q1 (vb (decide (a0.F ≥ y28))) ?_
   refine step (v := vb (decide (a0.F ≥ y28))) (st_pickT (b := ((a0.Kids.length : Int) == 0)) rfl hg31 rfl) ?_
   refine q1 (vb (decide (a0.F ≥ y28))) ?_
   by_cases hg32 : decide (a0.F ≥ y28) = true
   ·
    refine qG (decide (a0.F ≥ y28)) hg32 ?_
    refine q1 (.d (.cptr (some 4) (uapi_Pol a0) 1)) ?_
    refine qG (decide (a0.F ≥ y28)) hg32 ?_
    refine q1 (vi a0.F) ?_
    refine qG (decide (a0.F ≥ y28)) hg32 ?_
    refine q1 (vi y29) ?_
    refine qG (decide (a0.F ≥ y28)) hg32 ?_
    refine q1 (vb (decide (a0.F < y29))) ?_
    refine step (v := vb (decide (a0.F < y29))) (st_pickT (b := decide (a0.F ≥ y28)) rfl hg32 rfl) ?_
    refine q1 (vb (decide (a0.F < y29))) ?_
    exact RunOps.nil' (nm [] ⟨.eq (by first | (simp [hg31, hg32]; done) | (simp_all; done) | grind), trivial⟩ trivial)
   ·
    refine qX (decide (a0.F ≥ y28)) hg32 ?_
    refine qX (decide (a0.F ≥ y28)) hg32 ?_
    refine qX (decide (a0.F ≥ y28)) hg32 ?_
    refine qX (decide (a0.F ≥ y28)) hg32 ?_
    refine step (v := vb false) (st_pickF (b := decide (a0.F ≥ y28)) rfl hg32 rfl) ?_
    refine q1 (vb false) ?_
    exact RunOps.nil' (nm [] ⟨.eq (by first | (simp [hg31, hg32]; done) | (simp_all; done) | grind), trivial⟩ trivial)
  ·
   refine qX ((a0.Kids.length : Int) == 0) hg31 ?_
   refine qX ((a0.Kids.length : Int) == 0) hg31 ?_
   refine qX ((a0.Kids.length : Int) == 0) hg31 ?_
   refine qX ((a0.Kids.length : Int) == 0) hg31 ?_
   refine step (v := vb false) (st_pickF (b := ((a0.Kids.length : Int) == 0)) rfl hg31 rfl) ?_
   refine q1 (vb false) ?_
   refine qX false (by decide) ?_
   refine qX false (by decide) ?_
   refine qX false (by decide) ?_
   refine qX false (by decide) ?_
   refine step (v := vb false) (st_pickF (b := false) rfl (by decide) rfl) ?_
   refine q1 (vb false) ?_
   exact RunOps.nil' (nm [] ⟨.eq (by first | (simp [hg31]; done) | (simp_all; done) | grind), trivial⟩ trivial)
 have hh := Option.some.inj h
 subst hh
 refine NWp.ret ?_
 show FQ _ _ _ _
 exact FQ.mk1 (.inr rfl) (res_t (v := vb (((a0.Kids.length : Int) == 0) && ((decide (a0.F ≥ y28)) && (decide (a0.F < y29))))) rfl rfl) (RV.d trivial)

theorem c_syntax_formed_f : ∀ (k : Nat) (a0 : api_Pol) (a1 : Int) (r : Bool), syntax_formed_f k a0 a1 = some r → PCall Try.prog 85 [uapi_Pol a0, .int .i64 a1] (.bool r)
 | 0, _, _, _, h => by cases h
 | k + 1, _, _, _, h => c_syntax_formed_s (c_syntax_formed_f k) h

theorem c_syntax_formed {a0 : api_Pol} {a1 : Int} {r : Bool} (h : syntax_formed a0 a1 = some r) : PCall Try.prog 85 [uapi_Pol a0, .int .i64 a1] (.bool r) := c_syntax_formed_f FUEL _ _ _ h

theorem c_syntax_once {a0 : (List api_Pair)} {a1 : Int} {r : Bool} (h : syntax_once a0 a1 = some r) : PCall Try.prog 86 [eL (some 2) eapi_Pair a0, .int .i64 a1] (.bool r) := by
 refine PCall.introN ok86 (show 2 ≤ 39 by decide) ?_
 refine NWp.norm (s0 := ⟨tab [(0, vl1 a0), (1, vi a1)], stab [], 0⟩) (nr []) ?_
 refine NWp.opsJ ⟨tab [(0, vl1 a0), (1, vi a1)], stab [], 0⟩ ?_ ?_
 ·
  refine q1 (vb false) ?_
  exact nR []
 refine NWp.seq ?_
 refine NWp.opsJ ⟨tab [(0, vl1 a0), (1, vi a1), (7, vl1 a0), (8, vi (a0.length : Int)), (9, vi 0)], stab [], 0⟩ ?_ ?_
 ·
  refine q1 (vl1 a0) ?_
  refine step (v := vi (a0.length : Int)) (st_len (xs := a0) (e := eapi_Pair) rfl) ?_
  refine q1 (vi 0) ?_
  exact nR []
 obtain ⟨q15, hl, h⟩ := bindE h
 refine NWp.block ?_
 refine loop_forR (cntU (a0.length : Int)) (fun (i1 : Int) (qq : Unit) => ⟨tab [(0, vl1 a0), (1, vi a1), (7, vl1 a0), (8, vi (a0.length : Int)), (9, vi i1)], stab [], 0⟩) 0 (fun (qq : Unit) => ⟨tab [], stab [], 0⟩) Low low_step (r := r) hl (by unfold Low; omega) ?_ ?_ ?_ ?_
 ·
  rintro i1 ⟨⟩ xr6 hinv4 hgo3 h
  show NWp _ _ _ _ _ ⟨tab [(0, vl1 a0), (1, vi a1), (7, vl1 a0), (8, vi (a0.length : Int)), (9, vi i1)], stab [], 0⟩
  have hc5 : decide (i1 < (a0.length : Int)) = true := decide_eq_true hgo3
  refine NWp.opsJ ⟨tab [(0, vl1 a0), (1, vi a1), (7, vl1 a0), (8, vi (a0.length : Int)), (9, vi i1), (10, vb (decide (i1 < (a0.length : Int))))], stab [], 0⟩ ?_ ?_
  ·
   refine q1 (vb (decide (i1 < (a0.length : Int)))) ?_
   exact nR []
  refine NWp.rng 8 rfl fun hB2 => ?_
  refine NWp.seq ?_
  refine NWp.condT (t := decide (i1 < (a0.length : Int))) rfl hc5 ?_
  refine NWp.skip ?_
  refine NWp.seq ?_
  refine NWp.block ?_
  obtain ⟨x7, hx7, h⟩ := bindE h
  refine NWp.opsJ ⟨tab [(0, vl1 a0), (1, vi a1), (5, vi i1), (6, .ptr 0 0 0), (7, vl1 a0), (8, vi (a0.length : Int)), (9, vi i1)], stab [(0, .var [vi x7.F, vh x7.N])], 1⟩ ?_ ?_
  ·
   refine q1 (vi i1) ?_
   refine step (v := vp2 x7) (st_iaddr (xs := a0) (e := eapi_Pair) hx7 rfl rfl) ?_
   refine q1 (.d (eapi_Pair x7)) ?_
   refine step (v := .ptr 0 0 0) (σ' := (upd (stab []) 0 (some (.var [vi 0, vh 0])))) (n' := 1) rfl ?_
   refine q1 (vi i1) ?_
   refine step (v := V.undef) (σ' := (upd (upd (stab []) 0 (some (.var [vi 0, vh 0]))) 0 (some (.var [vi x7.F, vh x7.N])))) (n' := 1) rfl ?_
   exact nR [0]
  obtain ⟨y12, hv, h⟩ := bindE h
  refine NWp.opsJ ⟨tab [(0, vl1 a0), (1, vi a1), (7, vl1 a0), (8, vi (a0.length : Int)), (9, vi i1), (37, vb y12)], stab [], 0⟩ ?_ ?_
  ·
   refine q1 (.ptr 0 0 0) ?_
   refine q1 (vi x7.F) ?_
   refine q1 (vb (decide (x7.F < 0))) ?_
   refine q1 (vb (decide (x7.F < 0))) ?_
   by_cases hg8 : decide (x7.F < 0) = true
   ·
    replace hv := iteT hg8 hv
    refine qX (decide (x7.F < 0)) (by rw [hg8]; decide) ?_
    refine qX (decide (x7.F < 0)) (by rw [hg8]; decide) ?_
    refine qX (decide (x7.F < 0)) (by rw [hg8]; decide) ?_
    refine qX (decide (x7.F < 0)) (by rw [hg8]; decide) ?_
    refine step (v := vb true) (st_pickT (b := decide (x7.F < 0)) rfl hg8 rfl) ?_
    refine q1 (vb true) ?_
    refine qX true (by decide) ?_
    refine qX true (by decide) ?_
    refine qX true (by decide) ?_
    refine stepXX rfl ?_
    refine stepXX rfl ?_
    refine stepXX rfl ?_
    refine stepXX rfl ?_
    refine stepXX rfl ?_
    refine stepXX rfl ?_
    refine stepXX rfl ?_
    refine stepXX rfl ?_
    refine stepXX rfl ?_
    refine qX true (by decide) ?_
    refine step (v := vb true) (st_pickT (b := true) rfl rfl rfl) ?_
    have hh := Option.some.inj hv
    subst hh
    exact nR []
   ·
    replace hv := iteF hg8 hv
    refine qG (decide (x7.F < 0)) (Bool.eq_false_iff.2 hg8) ?_
    refine q1 (.ptr 0 0 0) ?_
    refine qG (decide (x7.F < 0)) (Bool.eq_false_iff.2 hg8) ?_
    refine q1 (vi x7.F) ?_
    refine qG (decide (x7.F < 0)) (Bool.eq_false_iff.2 hg8) ?_
    refine q1 (vi a1) ?_
    refine qG (decide (x7.F < 0)) (Bool.eq_false_iff.2 hg8) ?_
    refine q1 (vb (decide (x7.F ≥ a1))) ?_
    refine step (v := vb (decide (x7.F ≥ a1))) (st_pickF (b := decide (x7.F < 0)) rfl hg8 rfl) ?_
    refine q1 (vb (decide (x7.F ≥ a1))) ?_
    by_cases hg9 : decide (x7.F ≥ a1) = true
    ·
     replace hv := iteT hg9 hv
     refine qX (decide (x7.F ≥ a1)) (by rw [hg9]; decide) ?_
     refine qX (decide (x7.F ≥ a1)) (by rw [hg9]; decide) ?_
     refine qX (decide (x7.F ≥ a1)) (by rw [hg9]; decide) ?_
     refine stepXX rfl ?_
     refine stepXX rfl ?_
     refine stepXX rfl ?_
     refine stepXX rfl ?_
     refine stepXX rfl ?_
     refine stepXX rfl ?_
     refine stepXX rfl ?_
     refine stepXX rfl ?_
     refine stepXX rfl ?_
     refine qX (decide (x7.F ≥ a1)) (by rw [hg9]; decide) ?_
     refine step (v := vb true) (st_pickT (b := decide (x7.F ≥ a1)) rfl hg9 rfl) ?_
     have hh := Option.some.inj hv
     subst hh
     exact nR []
    ·
     replace hv := iteF hg9 hv
     refine qG (decide (x7.F ≥ a1)) (Bool.eq_false_iff.2 hg9) ?_
     refine q1 (vi i1) ?_
     refine qG (decide (x7.F ≥ a1)) (Bool.eq_false_iff.2 hg9) ?_
     refine q1 (vb (decide (i1 > 0))) ?_
     refine qG (decide (x7.F ≥ a1)) (Bool.eq_false_iff.2 hg9) ?_
     refine q1 (vb (decide (i1 > 0))) ?_
     by_cases hg10 : decide (i1 > 0) = true
     ·
      replace hv := iteT hg10 hv
      obtain ⟨x11, hx11, hv⟩ := bindE hv
      refine qG (decide (i1 > 0)) hg10 ?_
      refine q1 (vl1 a0) ?_
      refine qG (decide (i1 > 0)) hg10 ?_
      refine q1 (vi i1) ?_
      refine qG (decide (i1 > 0)) hg10 ?_
      refine q1 (vi (IntKind.i64.wrap (i1 - 1))) ?_
      refine qG (decide (i1 > 0)) hg10 ?_
      refine step (v := vp2 x11) (st_iaddr (xs := a0) (e := eapi_Pair) hx11 rfl rfl) ?_
      refine qG (decide (i1 > 0)) hg10 ?_
      refine q1 (vp2 x11) ?_
      refine qG (decide (i1 > 0)) hg10 ?_
      refine q1 (vi x11.F) ?_
      refine qG (decide (i1 > 0)) hg10 ?_
      refine q1 (.ptr 0 0 0) ?_
      refine qG (decide (i1 > 0)) hg10 ?_
      refine q1 (vi x7.F) ?_
      refine qG (decide (i1 > 0)) hg10 ?_
      refine q1 (vb (decide (x11.F ≥ x7.F))) ?_
      refine qG (decide (x7.F ≥ a1)) (Bool.eq_false_iff.2 hg9) ?_
      refine step (v := vb (decide (x11.F ≥ x7.F))) (st_pickT (b := decide (i1 > 0)) rfl hg10 rfl) ?_
      refine step (v := vb (decide (x11.F ≥ x7.F))) (st_pickF (b := decide (x7.F ≥ a1)) rfl hg9 rfl) ?_
      have hh := Option.some.inj hv
      subst hh
      exact nR []
     ·
      replace hv := iteF hg10 hv
      refine qX (decide (i1 > 0)) hg10 ?_
      refine qX (decide (i1 > 0)) hg10 ?_
      refine qX (decide (i1 > 0)) hg10 ?_
      refine qX (decide (i1 > 0)) hg10 ?_
      refine qX (decide (i1 > 0)) hg10 ?_
      refine qX (decide (i1 > 0)) hg10 ?_
      refine qX (decide (i1 > 0)) hg10 ?_
      refine qX (decide (i1 > 0)) hg10 ?_
      refine qX (decide (i1 > 0)) hg10 ?_
      refine qG (decide (x7.F ≥ a1)) (Bool.eq_false_iff.2 hg9) ?_
      refine step (v := vb false) (st_pickF (b := decide (i1 > 0)) rfl hg10 rfl) ?_
      refine step (v := vb false) (st_pickF (b := decide (x7.F ≥ a1)) rfl hg9 rfl) ?_
      have hh := Option.some.inj hv
      subst hh
      exact nR []
  by_cases hc14 : y12 = true
  ·
   replace h := iteT hc14 h
   refine NWp.condT (t := y12) rfl hc14 ?_
   refine NWp.opsJ ⟨tab [(4, vb false)], stab [], 0⟩ ?_ ?_
   ·
    refine q1 (vb false) ?_
    exact nR []
   obtain ⟨r15, kr15, hr⟩ := mapE (o := some false) (g := Br.ret) h
   subst hr
   have h := kr15
   have hh := Option.some.inj h
   subst hh
   refine NWp.ret ?_
   refine And.intro (fun hn => nomatch hn) ?_
   intro hq
   have hq := hq.symm
   subst hq
   show FQ _ _ _ _
   exact FQ.mk1 (.inr rfl) (res_t (v := vb false) rfl rfl) (RV.d trivial)
  ·
   replace h := iteF hc14 h
   refine NWp.condF (t := y12) rfl hc14 ?_
   refine NWp.skip ?_
   have hh := Option.some.inj h
   subst hh
   refine NWp.opsE ⟨tab [(0, vl1 a0), (1, vi a1), (7, vl1 a0), (8, vi (a0.length : Int)), (9, vi (i1 + 1))], stab [], 0⟩ ?_ ?_
   ·
    refine step (v := vi (i1 + 1)) (st_inc (inc_ok hinv4 hgo3 hB2) rfl rfl) ?_
    refine q1 (vi (i1 + 1)) ?_
    exact nR []
   exact And.intro rfl rfl
 ·
  rintro i1 ⟨⟩ hinv4 hgo3
  show NWp _ _ _ _ _ ⟨tab [(0, vl1 a0), (1, vi a1), (7, vl1 a0), (8, vi (a0.length : Int)), (9, vi i1)], stab [], 0⟩
  have hc5 : ¬ (decide (i1 < (a0.length : Int)) = true) := fun hq => hgo3 (of_decide_eq_true hq)
  refine NWp.opsJ ⟨tab [(0, vl1 a0), (1, vi a1), (7, vl1 a0), (8, vi (a0.length : Int)), (9, vi i1), (10, vb (decide (i1 < (a0.length : Int))))], stab [], 0⟩ ?_ ?_
  ·
   refine q1 (vb (decide (i1 < (a0.length : Int)))) ?_
   exact nR []
  refine NWp.seq ?_
  refine NWp.condF (t := decide (i1 < (a0.length : Int))) rfl hc5 ?_
  refine NWp.norm (s0 := ⟨tab [], stab [], 0⟩) (nr []) ?_
  refine NWp.exit ?_
  exact And.intro rfl rfl
 ·
  intro r' hq
  subst hq
  exact Option.some.inj h
 rintro ⟨⟩ rfl
 refine NWp.opsJ ⟨tab [(4, vb true)], stab [], 0⟩ ?_ ?_
 ·
  refine q1 (vb true) ?_
  exact nR []
 have hh := Option.some.inj h
 subst hh
 refine NWp.ret ?_
 show FQ _ _ _ _
 exact FQ.mk1 (.inr rfl) (res_t (v := vb true) rfl rfl) (RV.d trivial)

theorem c_syntax_Check {a0 : api_Program} {r : Int} (h : syntax_Check a0 = some r) : PCall Try.prog 65 [eapi_Program a0] (.int .i64 r) := by
 refine PCall.introN ok65 (show 1 ≤ 95 by decide) ?_
 refine NWp.norm (s0 := ⟨tab [(0, vs1 a0)], stab [], 0⟩) (nr []) ?_
 refine NWp.opsJ ⟨tab [(1, vp1 a0)], stab [], 0⟩ ?_ ?_
 ·
  refine q1 (vp1 a0) ?_
  refine q1 (vi 0) ?_
  exact nR []
 refine NWp.opsJ ⟨tab [(1, vp1 a0), (3, vi (a0.Init.length : Int))], stab [], 0⟩ ?_ ?_
 ·
  refine q1 (vp1 a0) ?_
  refine q1 (vl3 a0.Init) ?_
  refine step (v := vi (a0.Init.length : Int)) (st_len (xs := a0.Init) (e := (D.int .u16)) rfl) ?_
  refine q1 (vi (a0.Init.length : Int)) ?_
  exact nR []
 refine NWp.seq ?_
 obtain ⟨y7, hv, h⟩ := bindE h
 refine NWp.opsJ ⟨tab [(1, vp1 a0), (3, vi (a0.Init.length : Int)), (33, vb y7)], stab [], 0⟩ ?_ ?_
 ·
  refine q1 (vi (a0.Init.length : Int)) ?_
  refine q1 (vb (decide ((a0.Init.length : Int) < 1))) ?_
  refine q1 (vb (decide ((a0.Init.length : Int) < 1))) ?_
  by_cases hg1 : decide ((a0.Init.length : Int) < 1) = true
  ·
   replace hv := iteT hg1 hv
   refine qX (decide ((a0.Init.length : Int) < 1)) (by rw [hg1]; decide) ?_
   refine qX (decide ((a0.Init.length : Int) < 1)) (by rw [hg1]; decide) ?_
   refine step (v := vb true) (st_pickT (b := decide ((a0.Init.length : Int) < 1)) rfl hg1 rfl) ?_
   refine q1 (vb true) ?_
   refine qX true (by decide) ?_
   refine qX true (by decide) ?_
   refine qX true (by decide) ?_
   refine qX true (by decide) ?_
   refine step (v := vb true) (st_pickT (b := true) rfl rfl rfl) ?_
   refine q1 (vb true) ?_
   refine qX true (by decide) ?_
   refine qX true (by decide) ?_
   refine qX true (by decide) ?_
   refine qX true (by decide) ?_
   refine step (v := vb true) (st_pickT (b := true) rfl rfl rfl) ?_
   refine q1 (vb true) ?_
   refine qX true (by decide) ?_
   refine qX true (by decide) ?_
   refine qX true (by decide) ?_
   refine qX true (by decide) ?_
   refine step (v := vb true) (st_pickT (b := true) rfl rfl rfl) ?_
   have hh := Option.some.inj hv
   subst hh
   exact nR []
  ·
   replace hv := iteF hg1 hv
   refine qG (decide ((a0.Init.length : Int) < 1)) (Bool.eq_false_iff.2 hg1) ?_
   refine q1 (vi (a0.Init.length : Int)) ?_
   refine qG (decide ((a0.Init.length : Int) < 1)) (Bool.eq_false_iff.2 hg1) ?_
   refine q1 (vb (decide ((a0.Init.length : Int) > 4))) ?_
   refine step (v := vb (decide ((a0.Init.length : Int) > 4))) (st_pickF (b := decide ((a0.Init.length : Int) < 1)) rfl hg1 rfl) ?_
   refine q1 (vb (decide ((a0.Init.length : Int) > 4))) ?_
   by_cases hg2 : decide ((a0.Init.length : Int) > 4) = true
   ·
    replace hv := iteT hg2 hv
    refine qX (decide ((a0.Init.length : Int) > 4)) (by rw [hg2]; decide) ?_
    refine qX (decide ((a0.Init.length : Int) > 4)) (by rw [hg2]; decide) ?_
    refine qX (decide ((a0.Init.length : Int) > 4)) (by rw [hg2]; decide) ?_
    refine qX (decide ((a0.Init.length : Int) > 4)) (by rw [hg2]; decide) ?_
    refine step (v := vb true) (st_pickT (b := decide ((a0.Init.length : Int) > 4)) rfl hg2 rfl) ?_
    refine q1 (vb true) ?_
    refine qX true (by decide) ?_
    refine qX true (by decide) ?_
    refine qX true (by decide) ?_
    refine qX true (by decide) ?_
    refine step (v := vb true) (st_pickT (b := true) rfl rfl rfl) ?_
    refine q1 (vb true) ?_
    refine qX true (by decide) ?_
    refine qX true (by decide) ?_
    refine qX true (by decide) ?_
    refine qX true (by decide) ?_
    refine step (v := vb true) (st_pickT (b := true) rfl rfl rfl) ?_
    have hh := Option.some.inj hv
    subst hh
    exact nR []
   ·
    replace hv := iteF hg2 hv
    obtain ⟨r3, hr3, hv⟩ := bindE hv
    refine qG (decide ((a0.Init.length : Int) > 4)) (Bool.eq_false_iff.2 hg2) ?_
    refine q1 (.d (.cptr (some 6) (eapi_Program a0) 1)) ?_
    refine qG (decide ((a0.Init.length : Int) > 4)) (Bool.eq_false_iff.2 hg2) ?_
    refine q1 (vs0 a0.Pol) ?_
    refine qG (decide ((a0.Init.length : Int) > 4)) (Bool.eq_false_iff.2 hg2) ?_
    refine stepC (r := .int .i64 r3) (ArgsOk.dt ArgsOk.nil') (c_syntax_Size hr3) ?_
    refine qG (decide ((a0.Init.length : Int) > 4)) (Bool.eq_false_iff.2 hg2) ?_
    refine q1 (vb (decide (r3 > 300))) ?_
    refine step (v := vb (decide (r3 > 300))) (st_pickF (b := decide ((a0.Init.length : Int) > 4)) rfl hg2 rfl) ?_
    refine q1 (vb (decide (r3 > 300))) ?_
    by_cases hg4 : decide (r3 > 300) = true
    ·
     replace hv := iteT hg4 hv
     refine qX (decide (r3 > 300)) (by rw [hg4]; decide) ?_
     refine qX (decide (r3 > 300)) (by rw [hg4]; decide) ?_
     refine qX (decide (r3 > 300)) (by rw [hg4]; decide) ?_
     refine qX (decide (r3 > 300)) (by rw [hg4]; decide) ?_
     refine step (v := vb true) (st_pickT (b := decide (r3 > 300)) rfl hg4 rfl) ?_
     refine q1 (vb true) ?_
     refine qX true (by decide) ?_
     refine qX true (by decide) ?_
     refine qX true (by decide) ?_
     refine qX true (by decide) ?_
     refine step (v := vb true) (st_pickT (b := true) rfl rfl rfl) ?_
     have hh := Option.some.inj hv
     subst hh
     exact nR []
    ·
     replace hv := iteF hg4 hv
     obtain ⟨r5, hr5, hv⟩ := bindE hv
     refine qG (decide (r3 > 300)) (Bool.eq_false_iff.2 hg4) ?_
     refine q1 (.d (.cptr (some 6) (eapi_Program a0) 1)) ?_
     refine qG (decide (r3 > 300)) (Bool.eq_false_iff.2 hg4) ?_
     refine q1 (vs0 a0.Pol) ?_
     refine qG (decide (r3 > 300)) (Bool.eq_false_iff.2 hg4) ?_
     refine stepC (r := .int .i64 r5) (ArgsOk.dt ArgsOk.nil') (c_syntax_Depth hr5) ?_
     refine qG (decide (r3 > 300)) (Bool.eq_false_iff.2 hg4) ?_
     refine q1 (vb (decide (r5 > 20))) ?_
     refine step (v := vb (decide (r5 > 20))) (st_pickF (b := decide (r3 > 300)) rfl hg4 rfl) ?_
     refine q1 (vb (decide (r5 > 20))) ?_
     by_cases hg6 : decide (r5 > 20) = true
     ·
      replace hv := iteT hg6 hv
      refine qX (decide (r5 > 20)) (by rw [hg6]; decide) ?_
      refine qX (decide (r5 > 20)) (by rw [hg6]; decide) ?_
      refine qX (decide (r5 > 20)) (by rw [hg6]; decide) ?_
      refine qX (decide (r5 > 20)) (by rw [hg6]; decide) ?_
      refine step (v := vb true) (st_pickT (b := decide (r5 > 20)) rfl hg6 rfl) ?_
      have hh := Option.some.inj hv
      subst hh
      exact nR []
     ·
      replace hv := iteF hg6 hv
      refine qG (decide (r5 > 20)) (Bool.eq_false_iff.2 hg6) ?_
      refine q1 (.d (.cptr (some 6) (eapi_Program a0) 5)) ?_
      refine qG (decide (r5 > 20)) (Bool.eq_false_iff.2 hg6) ?_
      refine q1 (vl2 a0.Rules) ?_
      refine qG (decide (r5 > 20)) (Bool.eq_false_iff.2 hg6) ?_
      refine step (v := vi (a0.Rules.length : Int)) (st_len (xs := a0.Rules) (e := eapi_Rule) rfl) ?_
      refine qG (decide (r5 > 20)) (Bool.eq_false_iff.2 hg6) ?_
      refine q1 (vb (decide ((a0.Rules.length : Int) > 24))) ?_
      refine step (v := vb (decide ((a0.Rules.length : Int) > 24))) (st_pickF (b := decide (r5 > 20)) rfl hg6 rfl) ?_
      have hh := Option.some.inj hv
      subst hh
      exact nR []
 by_cases hc9 : y7 = true
 ·
  replace h := iteT hc9 h
  refine NWp.condT (t := y7) rfl hc9 ?_
  refine NWp.opsJ ⟨tab [(2, vi 2)], stab [], 0⟩ ?_ ?_
  ·
   refine q1 (vi 2) ?_
   exact nR []
  have hh := Option.some.inj h
  subst hh
  refine NWp.ret ?_
  show FQ _ _ _ _
  exact FQ.mk1 (.inr rfl) (res_t (v := vi 2) rfl rfl) (RV.d trivial)
 ·
  replace h := iteF hc9 h
  refine NWp.condF (t := y7) rfl hc9 ?_
  refine NWp.skip ?_
  refine NWp.seq ?_
  obtain ⟨r10, hr10, h⟩ := bindE h
  refine NWp.opsJ ⟨tab [(1, vp1 a0), (3, vi (a0.Init.length : Int)), (38, vb (!r10))], stab [], 0⟩ ?_ ?_
  ·
   refine q1 (.d (.cptr (some 6) (eapi_Program a0) 1)) ?_
   refine q1 (vs0 a0.Pol) ?_
   refine q1 (vi (a0.Init.length : Int)) ?_
   refine stepC (r := .bool r10) (ArgsOk.dt (ArgsOk.dt ArgsOk.nil')) (c_syntax_formed hr10) ?_
   refine q1 (vb (!r10)) ?_
   exact nR []
  by_cases hc11 : (!r10) = true
  ·
   replace h := iteT hc11 h
   refine NWp.condT (t := (!r10)) rfl hc11 ?_
   refine NWp.opsJ ⟨tab [(2, vi 11)], stab [], 0⟩ ?_ ?_
   ·
    refine q1 (vi 11) ?_
    exact nR []
   have hh := Option.some.inj h
   subst hh
   refine NWp.ret ?_
   show FQ _ _ _ _
   exact FQ.mk1 (.inr rfl) (res_t (v := vi 11) rfl rfl) (RV.d trivial)
  ·
   replace h := iteF hc11 h
   refine NWp.condF (t := (!r10)) rfl hc11 ?_
   refine NWp.skip ?_
   refine NWp.seq ?_
   refine NWp.opsJ ⟨tab [(3, vi (a0.Init.length : Int)), (40, vl2 a0.Rules), (41, vi (a0.Rules.length : Int)), (42, vi 0)], stab [], 0⟩ ?_ ?_
   ·
    refine q1 (.d (.cptr (some 6) (eapi_Program a0) 5)) ?_
    refine q1 (vl2 a0.Rules) ?_
    refine step (v := vi (a0.Rules.length : Int)) (st_len (xs := a0.Rules) (e := eapi_Rule) rfl) ?_
    refine q1 (vi 0) ?_
    exact nR []
   obtain ⟨q35, hl, h⟩ := bindE h
   refine NWp.block ?_
   refine loop_forR (cntU (a0.Rules.length : Int)) (fun (i12 : Int) (qq : Unit) => ⟨tab [(3, vi (a0.Init.length : Int)), (40, vl2 a0.Rules), (41, vi (a0.Rules.length : Int)), (42, vi i12)], stab [], 0⟩) 0 (fun (qq : Unit) => ⟨tab [], stab [], 0⟩) Low low_step (r := r) hl (by unfold Low; omega) ?_ ?_ ?_ ?_
   ·
    rintro i12 ⟨⟩ xr17 hinv15 hgo14 h
    show NWp _ _ _ _ _ ⟨tab [(3, vi (a0.Init.length : Int)), (40, vl2 a0.Rules), (41, vi (a0.Rules.length : Int)), (42, vi i12)], stab [], 0⟩
    have hc16 : decide (i12 < (a0.Rules.length : Int)) = true := decide_eq_true hgo14
    refine NWp.opsJ ⟨tab [(3, vi (a0.Init.length : Int)), (40, vl2 a0.Rules), (41, vi (a0.Rules.length : Int)), (42, vi i12), (43, vb (decide (i12 < (a0.Rules.length : Int))))], stab [], 0⟩ ?_ ?_
    ·
     refine q1 (vb (decide (i12 < (a0.Rules.length : Int)))) ?_
     exact nR []
    refine NWp.rng 41 rfl fun hB13 => ?_
    refine NWp.seq ?_
    refine NWp.condT (t := decide (i12 < (a0.Rules.length : Int))) rfl hc16 ?_
    refine NWp.skip ?_
    refine NWp.seq ?_
    refine NWp.block ?_
    obtain ⟨x18, hx18, h⟩ := bindE h
    refine NWp.opsJ ⟨tab [(3, vi (a0.Init.length : Int)), (5, .ptr 0 0 0), (40, vl2 a0.Rules), (41, vi (a0.Rules.length : Int)), (42, vi i12)], stab [(0, bv3 x18)], 1⟩ ?_ ?_
    ·
     refine step (v := .d (.cptr (some 3) (eapi_Rule x18) 0)) (st_iaddr (xs := a0.Rules) (e := eapi_Rule) hx18 rfl rfl) ?_
     refine q1 (.d (eapi_Rule x18)) ?_
     refine step (v := .ptr 0 0 0) (σ' := (upd (stab []) 0 (some (.var [vl1 [], vl1 [], vl1 []])))) (n' := 1) rfl ?_
     refine step (v := V.undef) (σ' := (upd (upd (stab []) 0 (some (.var [vl1 [], vl1 [], vl1 []]))) 0 (some (bv3 x18)))) (n' := 1) rfl ?_
     exact nR [0]
    obtain ⟨y23, hv, h⟩ := bindE h
    refine NWp.opsJ ⟨tab [(3, vi (a0.Init.length : Int)), (5, .ptr 0 0 0), (6, vb y23), (40, vl2 a0.Rules), (41, vi (a0.Rules.length : Int)), (42, vi i12)], stab [(0, bv3 x18)], 1⟩ ?_ ?_
    ·
     refine q1 (.ptr 0 0 0) ?_
     refine q1 (vl1 x18.When) ?_
     refine step (v := vi (x18.When.length : Int)) (st_len (xs := x18.When) (e := eapi_Pair) rfl) ?_
     refine q1 (vb (decide ((x18.When.length : Int) ≥ 2))) ?_
     refine q1 (vb (decide ((x18.When.length : Int) ≥ 2))) ?_
     by_cases hg19 : decide ((x18.When.length : Int) ≥ 2) = true
     ·
      replace hv := iteT hg19 hv
      obtain ⟨x20, hx20, hv⟩ := bindE hv
      refine qG (decide ((x18.When.length : Int) ≥ 2)) hg19 ?_
      refine q1 (.ptr 0 0 0) ?_
      refine qG (decide ((x18.When.length : Int) ≥ 2)) hg19 ?_
      refine q1 (vl1 x18.When) ?_
      refine qG (decide ((x18.When.length : Int) ≥ 2)) hg19 ?_
      refine step (v := vp2 x20) (st_iaddr (xs := x18.When) (e := eapi_Pair) hx20 rfl rfl) ?_
      refine qG (decide ((x18.When.length : Int) ≥ 2)) hg19 ?_
      refine q1 (vp2 x20) ?_
      refine qG (decide ((x18.When.length : Int) ≥ 2)) hg19 ?_
      refine q1 (vi x20.F) ?_
      refine qG (decide ((x18.When.length : Int) ≥ 2)) hg19 ?_
      refine q1 (vb (x20.F == 0)) ?_
      refine step (v := vb (x20.F == 0)) (st_pickT (b := decide ((x18.When.length : Int) ≥ 2)) rfl hg19 rfl) ?_
      refine q1 (vb (x20.F == 0)) ?_
      by_cases hg21 : (x20.F == 0) = true
      ·
       replace hv := iteT hg21 hv
       obtain ⟨x22, hx22, hv⟩ := bindE hv
       refine qG (x20.F == 0) hg21 ?_
       refine q1 (.ptr 0 0 0) ?_
       refine qG (x20.F == 0) hg21 ?_
       refine q1 (vl1 x18.When) ?_
       refine qG (x20.F == 0) hg21 ?_
       refine step (v := vp2 x22) (st_iaddr (xs := x18.When) (e := eapi_Pair) hx22 rfl rfl) ?_
       refine qG (x20.F == 0) hg21 ?_
       refine q1 (vp2 x22) ?_
       refine qG (x20.F == 0) hg21 ?_
       refine q1 (vi x22.F) ?_
       refine qG (x20.F == 0) hg21 ?_
       refine q1 (vb (x22.F == 1)) ?_
       refine step (v := vb (x22.F == 1)) (st_pickT (b := (x20.F == 0)) rfl hg21 rfl) ?_
       refine q1 (vb (x22.F == 1)) ?_
       have hh := Option.some.inj hv
       subst hh
       exact nR [0]
      ·
       replace hv := iteF hg21 hv
       refine qX (x20.F == 0) hg21 ?_
       refine qX (x20.F == 0) hg21 ?_
       refine qX (x20.F == 0) hg21 ?_
       refine qX (x20.F == 0) hg21 ?_
       refine qX (x20.F == 0) hg21 ?_
       refine qX (x20.F == 0) hg21 ?_
       refine step (v := vb false) (st_pickF (b := (x20.F == 0)) rfl hg21 rfl) ?_
       refine q1 (vb false) ?_
       have hh := Option.some.inj hv
       subst hh
       exact nR [0]
     ·
      replace hv := iteF hg19 hv
      refine qX (decide ((x18.When.length : Int) ≥ 2)) hg19 ?_
      refine qX (decide ((x18.When.length : Int) ≥ 2)) hg19 ?_
      refine qX (decide ((x18.When.length : Int) ≥ 2)) hg19 ?_
      refine qX (decide ((x18.When.length : Int) ≥ 2)) hg19 ?_
      refine qX (decide ((x18.When.length : Int) ≥ 2)) hg19 ?_
      refine qX (decide ((x18.When.length : Int) ≥ 2)) hg19 ?_
      refine step (v := vb false) (st_pickF (b := decide ((x18.When.length : Int) ≥ 2)) rfl hg19 rfl) ?_
      refine q1 (vb false) ?_
      refine qX false (by decide) ?_
      refine qX false (by decide) ?_
      refine qX false (by decide) ?_
      refine qX false (by decide) ?_
      refine qX false (by decide) ?_
      refine qX false (by decide) ?_
      refine step (v := vb false) (st_pickF (b := false) rfl (by decide) rfl) ?_
      refine q1 (vb false) ?_
      have hh := Option.some.inj hv
      subst hh
      exact nR [0]
    obtain ⟨y32, hv, h⟩ := bindE h
    refine NWp.opsJ ⟨tab [(3, vi (a0.Init.length : Int)), (40, vl2 a0.Rules), (41, vi (a0.Rules.length : Int)), (42, vi i12), (93, vb y32)], stab [], 0⟩ ?_ ?_
    ·
     refine q1 (vb y23) ?_
     refine q1 (vb (!y23)) ?_
     refine q1 (vb (!y23)) ?_
     by_cases hg25 : (!y23) = true
     ·
      replace hv := iteT hg25 hv
      refine qX (!y23) (by rw [hg25]; decide) ?_
      refine qX (!y23) (by rw [hg25]; decide) ?_
      refine qX (!y23) (by rw [hg25]; decide) ?_
      refine qX (!y23) (by rw [hg25]; decide) ?_
      refine step (v := vb true) (st_pickT (b := (!y23)) rfl hg25 rfl) ?_
      refine q1 (vb true) ?_
      refine qX true (by decide) ?_
      refine qX true (by decide) ?_
      refine qX true (by decide) ?_
      refine qX true (by decide) ?_
      refine qX true (by decide) ?_
      refine step (v := vb true) (st_pickT (b := true) rfl rfl rfl) ?_
      refine q1 (vb true) ?_
      refine qX true (by decide) ?_
      refine qX true (by decide) ?_
      refine qX true (by decide) ?_
      refine qX true (by decide) ?_
      refine qX true (by decide) ?_
      refine step (v := vb true) (st_pickT (b := true) rfl rfl rfl) ?_
      refine q1 (vb true) ?_
      refine qX true (by decide) ?_
      refine qX true (by decide) ?_
      refine qX true (by decide) ?_
      refine qX true (by decide) ?_
      refine step (v := vb true) (st_pickT (b := true) rfl rfl rfl) ?_
      have hh := Option.some.inj hv
      subst hh
      exact nR []
     ·
      replace hv := iteF hg25 hv
      obtain ⟨r26, hr26, hv⟩ := bindE hv
      refine qG (!y23) (Bool.eq_false_iff.2 hg25) ?_
      refine q1 (.ptr 0 0 0) ?_
      refine qG (!y23) (Bool.eq_false_iff.2 hg25) ?_
      refine q1 (vl1 x18.When) ?_
      refine qG (!y23) (Bool.eq_false_iff.2 hg25) ?_
      refine stepC (r := .bool r26) (ArgsOk.dt (ArgsOk.dt ArgsOk.nil')) (c_syntax_once hr26) ?_
      refine qG (!y23) (Bool.eq_false_iff.2 hg25) ?_
      refine q1 (vb (!r26)) ?_
      refine step (v := vb (!r26)) (st_pickF (b := (!y23)) rfl hg25 rfl) ?_
      refine q1 (vb (!r26)) ?_
      by_cases hg27 : (!r26) = true
      ·
       replace hv := iteT hg27 hv
       refine qX (!r26) (by rw [hg27]; decide) ?_
       refine qX (!r26) (by rw [hg27]; decide) ?_
       refine qX (!r26) (by rw [hg27]; decide) ?_
       refine qX (!r26) (by rw [hg27]; decide) ?_
       refine qX (!r26) (by rw [hg27]; decide) ?_
       refine step (v := vb true) (st_pickT (b := (!r26)) rfl hg27 rfl) ?_
       refine q1 (vb true) ?_
       refine qX true (by decide) ?_
       refine qX true (by decide) ?_
       refine qX true (by decide) ?_
       refine qX true (by decide) ?_
       refine qX true (by decide) ?_
       refine step (v := vb true) (st_pickT (b := true) rfl rfl rfl) ?_
       refine q1 (vb true) ?_
       refine qX true (by decide) ?_
       refine qX true (by decide) ?_
       refine qX true (by decide) ?_
       refine qX true (by decide) ?_
       refine step (v := vb true) (st_pickT (b := true) rfl rfl rfl) ?_
       have hh := Option.some.inj hv
       subst hh
       exact nR []
      ·
       replace hv := iteF hg27 hv
       obtain ⟨r28, hr28, hv⟩ := bindE hv
       refine qG (!r26) (Bool.eq_false_iff.2 hg27) ?_
       refine q1 (.ptr 0 0 1) ?_
       refine qG (!r26) (Bool.eq_false_iff.2 hg27) ?_
       refine q1 (vl1 x18.Guard) ?_
       refine qG (!r26) (Bool.eq_false_iff.2 hg27) ?_
       refine q1 (vi (a0.Init.length : Int)) ?_
       refine qG (!r26) (Bool.eq_false_iff.2 hg27) ?_
       refine stepC (r := .bool r28) (ArgsOk.dt (ArgsOk.dt ArgsOk.nil')) (c_syntax_once hr28) ?_
       refine qG (!r26) (Bool.eq_false_iff.2 hg27) ?_
       refine q1 (vb (!r28)) ?_
       refine step (v := vb (!r28)) (st_pickF (b := (!r26)) rfl hg27 rfl) ?_
       refine q1 (vb (!r28)) ?_
       by_cases hg29 : (!r28) = true
       ·
        replace hv := iteT hg29 hv
        refine qX (!r28) (by rw [hg29]; decide) ?_
        refine qX (!r28) (by rw [hg29]; decide) ?_
        refine qX (!r28) (by rw [hg29]; decide) ?_
        refine qX (!r28) (by rw [hg29]; decide) ?_
        refine qX (!r28) (by rw [hg29]; decide) ?_
        refine step (v := vb true) (st_pickT (b := (!r28)) rfl hg29 rfl) ?_
        refine q1 (vb true) ?_
        refine qX true (by decide) ?_
        refine qX true (by decide) ?_
        refine qX true (by decide) ?_
        refine qX true (by decide) ?_
        refine step (v := vb true) (st_pickT (b := true) rfl rfl rfl) ?_
        have hh := Option.some.inj hv
        subst hh
        exact nR []
       ·
        replace hv := iteF hg29 hv
        obtain ⟨r30, hr30, hv⟩ := bindE hv
        refine qG (!r28) (Bool.eq_false_iff.2 hg29) ?_
        refine q1 (.ptr 0 0 2) ?_
        refine qG (!r28) (Bool.eq_false_iff.2 hg29) ?_
        refine q1 (vl1 x18.Then) ?_
        refine qG (!r28) (Bool.eq_false_iff.2 hg29) ?_
        refine q1 (vi (a0.Init.length : Int)) ?_
        refine qG (!r28) (Bool.eq_false_iff.2 hg29) ?_
        refine stepC (r := .bool r30) (ArgsOk.dt (ArgsOk.dt ArgsOk.nil')) (c_syntax_once hr30) ?_
        refine qG (!r28) (Bool.eq_false_iff.2 hg29) ?_
        refine q1 (vb (!r30)) ?_
        refine step (v := vb (!r30)) (st_pickF (b := (!r28)) rfl hg29 rfl) ?_
        refine q1 (vb (!r30)) ?_
        by_cases hg31 : (!r30) = true
        ·
         replace hv := iteT hg31 hv
         refine qX (!r30) (by rw [hg31]; decide) ?_
         refine qX (!r30) (by rw [hg31]; decide) ?_
         refine qX (!r30) (by rw [hg31]; decide) ?_
         refine qX (!r30) (by rw [hg31]; decide) ?_
         refine step (v := vb true) (st_pickT (b := (!r30)) rfl hg31 rfl) ?_
         have hh := Option.some.inj hv
         subst hh
         exact nR []
        ·
         replace hv := iteF hg31 hv
         refine qG (!r30) (Bool.eq_false_iff.2 hg31) ?_
         refine q1 (.ptr 0 0 2) ?_
         refine qG (!r30) (Bool.eq_false_iff.2 hg31) ?_
         refine q1 (vl1 x18.Then) ?_
         refine qG (!r30) (Bool.eq_false_iff.2 hg31) ?_
         refine step (v := vi (x18.Then.length : Int)) (st_len (xs := x18.Then) (e := eapi_Pair) rfl) ?_
         refine qG (!r30) (Bool.eq_false_iff.2 hg31) ?_
         refine q1 (vb ((x18.Then.length : Int) == 0)) ?_
         refine step (v := vb ((x18.Then.length : Int) == 0)) (st_pickF (b := (!r30)) rfl hg31 rfl) ?_
         have hh := Option.some.inj hv
         subst hh
         exact nR []
    by_cases hc34 : y32 = true
    ·
     replace h := iteT hc34 h
     refine NWp.condT (t := y32) rfl hc34 ?_
     refine NWp.opsJ ⟨tab [(2, vi 11)], stab [], 0⟩ ?_ ?_
     ·
      refine q1 (vi 11) ?_
      exact nR []
     obtain ⟨r35, kr35, hr⟩ := mapE (o := some 11) (g := Br.ret) h
     subst hr
     have h := kr35
     have hh := Option.some.inj h
     subst hh
     refine NWp.ret ?_
     refine And.intro (fun hn => nomatch hn) ?_
     intro hq
     have hq := hq.symm
     subst hq
     show FQ _ _ _ _
     exact FQ.mk1 (.inr rfl) (res_t (v := vi 11) rfl rfl) (RV.d trivial)
    ·
     replace h := iteF hc34 h
     refine NWp.condF (t := y32) rfl hc34 ?_
     refine NWp.skip ?_
     have hh := Option.some.inj h
     subst hh
     refine NWp.opsE ⟨tab [(3, vi (a0.Init.length : Int)), (40, vl2 a0.Rules), (41, vi (a0.Rules.length : Int)), (42, vi (i12 + 1))], stab [], 0⟩ ?_ ?_
     ·
      refine step (v := vi (i12 + 1)) (st_inc (inc_ok hinv15 hgo14 hB13) rfl rfl) ?_
      refine q1 (vi (i12 + 1)) ?_
      exact nR []
     exact And.intro rfl rfl
   ·
    rintro i12 ⟨⟩ hinv15 hgo14
    show NWp _ _ _ _ _ ⟨tab [(3, vi (a0.Init.length : Int)), (40, vl2 a0.Rules), (41, vi (a0.Rules.length : Int)), (42, vi i12)], stab [], 0⟩
    have hc16 : ¬ (decide (i12 < (a0.Rules.length : Int)) = true) := fun hq => hgo14 (of_decide_eq_true hq)
    refine NWp.opsJ ⟨tab [(3, vi (a0.Init.length : Int)), (40, vl2 a0.Rules), (41, vi (a0.Rules.length : Int)), (42, vi i12), (43, vb (decide (i12 < (a0.Rules.length : Int))))], stab [], 0⟩ ?_ ?_
    ·
     refine q1 (vb (decide (i12 < (a0.Rules.length : Int)))) ?_
     exact nR []
    refine NWp.seq ?_
    refine NWp.condF (t := decide (i12 < (a0.Rules.length : Int))) rfl hc16 ?_
    refine NWp.norm (s0 := ⟨tab [], stab [], 0⟩) (nr []) ?_
    refine NWp.exit ?_
    exact And.intro rfl rfl
   ·
    intro r' hq
    subst hq
    exact Option.some.inj h
   rintro ⟨⟩ rfl
   refine NWp.opsJ ⟨tab [(2, vi 0)], stab [], 0⟩ ?_ ?_
   ·
    refine q1 (vi 0) ?_
    exact nR []
   have hh := Option.some.inj h
   subst hh
   refine NWp.ret ?_
   show FQ _ _ _ _
   exact FQ.mk1 (.inr rfl) (res_t (v := vi 0) rfl rfl) (RV.d trivial)

theorem c_trim_flat {a0 : Int} {a1 : (List api_Pol)} {r : (List api_Pol)} (h : trim_flat a0 a1 = some r) : SCall Try.prog 102 [vi a0, vl0 a1] (stab []) 0 (.loc 0 0 r.length) (stab [(0, .lst true (some 4) (List.map eapi_Pol r))]) 1 := by
 refine SCall.introN (bl := []) (bl' := [(0, .lst true (some 4) (List.map eapi_Pol r))]) ok102 (show 2 ≤ 28 by decide) rfl ?_
 refine NWp.norm (s0 := ⟨tab [(0, vi a0), (1, vl0 a1)], stab [], 0⟩) (nr []) ?_
 refine NWp.opsJ ⟨tab [(0, vi a0), (1, vl0 a1)], stab [], 0⟩ ?_ ?_
 ·
  refine q1 (.d (.nils)) ?_
  exact nR []
 refine NWp.opsJ ⟨tab [(0, vi a0), (1, vl0 a1), (5, .d (.nils))], stab [], 0⟩ ?_ ?_
 ·
  refine q1 (.d (.nils)) ?_
  exact nR []
 refine NWp.seq ?_
 refine NWp.opsJ ⟨tab [(0, vi a0), (5, .d (.nils)), (8, vl0 a1), (9, vi (a1.length : Int)), (10, vi 0)], stab [], 0⟩ ?_ ?_
 ·
  refine q1 (vl0 a1) ?_
  refine step (v := vi (a1.length : Int)) (st_len (xs := a1) (e := eapi_Pol) rfl) ?_
  refine q1 (vi 0) ?_
  exact nR []
 obtain ⟨z14, hl, h⟩ := bindE h
 refine NWp.norm (s0 := ⟨tab [(0, vi a0), (5, .loc 0 0 (([] : List api_Pol).length)), (8, vl0 a1), (9, vi (a1.length : Int)), (10, vi 0)], stab [(0, .lst true (some 4) (List.map eapi_Pol ([] : List api_Pol)))], 1⟩) (Norm.trans (s2 := ⟨tab [(0, vi a0), (5, .loc 0 0 (([] : List api_Pol).length)), (8, vl0 a1), (9, vi (a1.length : Int)), (10, vi 0)], stab [(0, .lst true (some 4) (List.map eapi_Pol ([] : List api_Pol)))], 1⟩) (Norm.nil1 5 true (some 4) rfl) (nr [0])) ?_
 refine NWp.block ?_
 refine loop_forO (cntU (a1.length : Int)) (fun (i2 : Int) (qq : (List api_Pol)) => ⟨tab [(0, vi a0), (5, .loc 0 0 qq.length), (8, vl0 a1), (9, vi (a1.length : Int)), (10, vi i2)], stab [(0, .lst true (some 4) (List.map eapi_Pol qq))], 1⟩) 0 (fun (qq : (List api_Pol)) => ⟨tab [(5, .loc 0 0 qq.length)], stab [(0, .lst true (some 4) (List.map eapi_Pol qq))], 1⟩) Low low_step hl (by unfold Low; omega) ?_ ?_ ?_
 ·
  rintro i2 l1 xr7 hinv5 hgo4 h
  show NWp _ _ _ _ _ ⟨tab [(0, vi a0), (5, .loc 0 0 l1.length), (8, vl0 a1), (9, vi (a1.length : Int)), (10, vi i2)], stab [(0, .lst true (some 4) (List.map eapi_Pol l1))], 1⟩
  have hc6 : decide (i2 < (a1.length : Int)) = true := decide_eq_true hgo4
  refine NWp.opsJ ⟨tab [(0, vi a0), (5, .loc 0 0 l1.length), (8, vl0 a1), (9, vi (a1.length : Int)), (10, vi i2), (11, vb (decide (i2 < (a1.length : Int))))], stab [(0, .lst true (some 4) (List.map eapi_Pol l1))], 1⟩ ?_ ?_
  ·
   refine q1 (vb (decide (i2 < (a1.length : Int)))) ?_
   exact nR [0]
  refine NWp.rng 9 rfl fun hB3 => ?_
  refine NWp.seq ?_
  refine NWp.condT (t := decide (i2 < (a1.length : Int))) rfl hc6 ?_
  refine NWp.skip ?_
  obtain ⟨l12, hv, h⟩ := bindE h
  refine NWp.seqN ⟨tab [(0, vi a0), (5, .loc 0 0 l12.length), (8, vl0 a1), (9, vi (a1.length : Int)), (10, vi i2)], stab [(0, .lst true (some 4) (List.map eapi_Pol l12))], 1⟩ ?_ ?_
  ·
   replace h := hv
   refine NWp.block ?_
   obtain ⟨x8, hx8, h⟩ := bindE h
   refine NWp.opsJ ⟨tab [(0, vi a0), (5, .loc 0 0 l1.length), (7, .ptr 1 0 0), (8, vl0 a1), (9, vi (a1.length : Int)), (10, vi i2)], stab [(0, .lst true (some 4) (List.map eapi_Pol l1)), (1, bv1 x8)], 2⟩ ?_ ?_
   ·
    refine step (v := vp0 x8) (st_iaddrU (xs := a1) (e := eapi_Pol) hx8 rfl rfl (eu_api_Pol _)) ?_
    refine q1 (vs0 x8) ?_
    refine step (v := .ptr 1 0 0) (σ' := (upd (stab [(0, .lst true (some 4) (List.map eapi_Pol l1))]) 1 (some (bv0)))) (n' := 2) rfl ?_
    refine step (v := V.undef) (σ' := (upd (upd (stab [(0, .lst true (some 4) (List.map eapi_Pol l1))]) 1 (some (bv0))) 1 (some (bv1 x8)))) (n' := 2) rfl ?_
    exact nR [0, 1]
   refine NWp.opsJ ⟨tab [(0, vi a0), (5, .loc 0 0 l1.length), (7, .ptr 1 0 0), (8, vl0 a1), (9, vi (a1.length : Int)), (10, vi i2), (17, vb (x8.Op == a0))], stab [(0, .lst true (some 4) (List.map eapi_Pol l1)), (1, bv1 x8)], 2⟩ ?_ ?_
   ·
    refine q1 (.ptr 1 0 0) ?_
    refine q1 (vi x8.Op) ?_
    refine q1 (vi a0) ?_
    refine q1 (vb (x8.Op == a0)) ?_
    exact nR [0, 1]
   by_cases hc9 : (x8.Op == a0) = true
   ·
    replace h := iteT hc9 h
    refine NWp.condT (t := (x8.Op == a0)) rfl hc9 ?_
    obtain ⟨l10, hl10, h⟩ := bindE h
    have hh := Option.some.inj h
    subst hh
    refine NWp.opsE ⟨tab [(0, vi a0), (5, .loc 0 0 l10.length), (8, vl0 a1), (9, vi (a1.length : Int)), (10, vi i2)], stab [(0, .lst true (some 4) (List.map eapi_Pol l10))], 1⟩ ?_ ?_
    ·
     refine q1 (.loc 0 0 l1.length) ?_
     refine q1 (.ptr 1 0 3) ?_
     refine q1 (vl0 x8.Kids) ?_
     refine step (v := .loc 2 0 l10.length) (σ' := (upd (upd (stab [(0, .lst true (some 4) (List.map eapi_Pol l1)), (1, bv1 x8)]) 0 none) 2 (some (.lst true (some 4) (List.map eapi_Pol l10))))) (n' := 3) (st_app (xs := l1) (ys := x8.Kids) (e := eapi_Pol) hl10 rfl rfl rfl (src_v (xs := x8.Kids) (e := eapi_Pol) rfl)) ?_
     refine q1 (.loc 2 0 l10.length) ?_
     exact nR [2]
    exact And.intro rfl rfl
   ·
    replace h := iteF hc9 h
    refine NWp.condF (t := (x8.Op == a0)) rfl hc9 ?_
    obtain ⟨l11, hl11, h⟩ := bindE h
    have hh := Option.some.inj h
    subst hh
    refine NWp.opsE ⟨tab [(0, vi a0), (5, .loc 0 0 l11.length), (8, vl0 a1), (9, vi (a1.length : Int)), (10, vi i2)], stab [(0, .lst true (some 4) (List.map eapi_Pol l11))], 1⟩ ?_ ?_
    ·
     refine q1 (.loc 0 0 l1.length) ?_
     refine step (v := vs0 x8) (st_ldV (ds := [.int .i64 x8.Op, .int .i64 x8.F, .int .u16 x8.N, eL (some 4) eapi_Pol x8.Kids]) rfl rfl (show 4 ≤ 4 by decide) rfl) ?_
     refine step (v := vl0 ([x8] : List api_Pol)) (st_eq rfl (by simp [eL, eu_api_Pol])) ?_
     refine step (v := .loc 2 0 l11.length) (σ' := (upd (upd (stab [(0, .lst true (some 4) (List.map eapi_Pol l1)), (1, bv1 x8)]) 0 none) 2 (some (.lst true (some 4) (List.map eapi_Pol l11))))) (n' := 3) (st_app (xs := l1) (ys := ([x8] : List api_Pol)) (e := eapi_Pol) hl11 rfl rfl rfl (src_v (xs := ([x8] : List api_Pol)) (e := eapi_Pol) rfl)) ?_
     refine q1 (.loc 2 0 l11.length) ?_
     exact nR [2]
    exact And.intro rfl rfl
  have hh := Option.some.inj h
  subst hh
  refine NWp.opsE ⟨tab [(0, vi a0), (5, .loc 0 0 l12.length), (8, vl0 a1), (9, vi (a1.length : Int)), (10, vi (i2 + 1))], stab [(0, .lst true (some 4) (List.map eapi_Pol l12))], 1⟩ ?_ ?_
  ·
   refine step (v := vi (i2 + 1)) (st_inc (inc_ok hinv5 hgo4 hB3) rfl rfl) ?_
   refine q1 (vi (i2 + 1)) ?_
   exact nR [0]
  exact And.intro rfl rfl
 ·
  rintro i2 l1 hinv5 hgo4
  show NWp _ _ _ _ _ ⟨tab [(0, vi a0), (5, .loc 0 0 l1.length), (8, vl0 a1), (9, vi (a1.length : Int)), (10, vi i2)], stab [(0, .lst true (some 4) (List.map eapi_Pol l1))], 1⟩
  have hc6 : ¬ (decide (i2 < (a1.length : Int)) = true) := fun hq => hgo4 (of_decide_eq_true hq)
  refine NWp.opsJ ⟨tab [(0, vi a0), (5, .loc 0 0 l1.length), (8, vl0 a1), (9, vi (a1.length : Int)), (10, vi i2), (11, vb (decide (i2 < (a1.length : Int))))], stab [(0, .lst true (some 4) (List.map eapi_Pol l1))], 1⟩ ?_ ?_
  ·
   refine q1 (vb (decide (i2 < (a1.length : Int)))) ?_
   exact nR [0]
  refine NWp.seq ?_
  refine NWp.condF (t := decide (i2 < (a1.length : Int))) rfl hc6 ?_
  refine NWp.norm (s0 := ⟨tab [(5, .loc 0 0 l1.length)], stab [(0, .lst true (some 4) (List.map eapi_Pol l1))], 1⟩) (nr [0]) ?_
  refine NWp.exit ?_
  exact And.intro rfl rfl
 refine NWp.opsJ ⟨tab [(4, .loc 0 0 z14.length)], stab [(0, .lst true (some 4) (List.map eapi_Pol z14))], 1⟩ ?_ ?_
 ·
  refine q1 (.loc 0 0 z14.length) ?_
  refine q1 (.loc 0 0 z14.length) ?_
  exact nR [0]
 have hh := Option.some.inj h
 subst hh
 refine NWp.ret ?_
 exact ⟨.inr rfl, _, rfl, rfl, AllS.sub ⟨rfl, trivial⟩, rfl⟩

theorem c_trim_without_1 {a0 : api_Pol} {a1 : Int} {r : Bool} (h : trim_without_1 a0 a1 = some r) : PCall Try.prog 116 [uapi_Pol a0, .cptr none (.int .i64 a1) 0] (.bool r) := by
 refine PCall.introN ok116 (show 2 ≤ 8 by decide) ?_
 refine NWp.norm (s0 := ⟨tab [(0, vs0 a0), (1, .d (.cptr none (.int .i64 a1) 0))], stab [], 0⟩) (nr []) ?_
 refine NWp.opsJ ⟨tab [(1, .d (.cptr none (.int .i64 a1) 0)), (2, vp0 a0)], stab [], 0⟩ ?_ ?_
 ·
  refine q1 (vp0 a0) ?_
  refine q1 (vb false) ?_
  exact nR []
 refine NWp.opsJ ⟨tab [(3, vb (a0.Op == a1))], stab [], 0⟩ ?_ ?_
 ·
  refine q1 (vp0 a0) ?_
  refine q1 (vi a0.Op) ?_
  refine q1 (vi a1) ?_
  refine q1 (vb (a0.Op == a1)) ?_
  refine q1 (vb (a0.Op == a1)) ?_
  exact nR []
 have hh := Option.some.inj h
 subst hh
 refine NWp.ret ?_
 show FQ _ _ _ _
 exact FQ.mk1 (.inr rfl) (res_t (v := vb (a0.Op == a1)) rfl rfl) (RV.d trivial)

theorem c_slices_DeleteFunc_api_Pol {a0 : (List api_Pol)} {a1 : (api_Pol → Option Bool)} {g_a1 : D} (hf_a1 : Fn1 Try.prog g_a1 uapi_Pol D.bool a1) {r : (List api_Pol)} (h : slices_DeleteFunc_api_Pol a0 a1 = some r) : SCall Try.prog 115 [.loc 0 0 a0.length, .d g_a1] (stab [(0, .lst true (some 4) (List.map eapi_Pol a0))]) 1 (.loc 0 0 r.length) (stab [(0, .lst true (some 4) (List.map eapi_Pol r))]) 1 := by
 obtain ⟨fn_a1, cap_a1, rfl, hc_a1⟩ := hf_a1
 refine SCall.introN (bl := [(0, .lst true (some 4) (List.map eapi_Pol a0))]) (bl' := [(0, .lst true (some 4) (List.map eapi_Pol r))]) ok115 (show 2 ≤ 42 by decide) rfl ?_
 refine NWp.norm (s0 := ⟨tab [(0, .loc 0 0 a0.length), (1, .d (.func fn_a1 cap_a1))], stab [(0, .lst true (some 4) (List.map eapi_Pol a0))], 1⟩) (nr [0]) ?_
 refine NWp.opsJ ⟨tab [(0, .loc 0 0 a0.length), (1, .d (.func fn_a1 cap_a1))], stab [(0, .lst true (some 4) (List.map eapi_Pol a0))], 1⟩ ?_ ?_
 ·
  refine q1 (vl0 ([] : List api_Pol)) ?_
  exact nR [0]
 obtain ⟨r1, hr1, h⟩ := bindE h
 refine NWp.opsJ ⟨tab [(0, .loc 0 0 a0.length), (1, .d (.func fn_a1 cap_a1)), (5, vi r1)], stab [(0, .lst true (some 4) (List.map eapi_Pol a0))], 1⟩ ?_ ?_
 ·
  refine q1 (.loc 0 0 a0.length) ?_
  refine q1 (.d (.func fn_a1 cap_a1)) ?_
  refine stepW (v := vi r1) (σ' := _) (n' := _) (PCall.borrow (c_slices_IndexFunc_api_Pol ⟨_, _, rfl, hc_a1⟩ hr1) rfl (ViewsB.c (viewB_all (xs := a0) (e := eapi_Pol) rfl rfl) (ViewsB.c (.d _) ViewsB.nil0))) (Nat.le_refl _) ?_
  refine q1 (vi r1) ?_
  exact nR [0]
 refine NWp.seq ?_
 refine NWp.opsJ ⟨tab [(0, .loc 0 0 a0.length), (1, .d (.func fn_a1 cap_a1)), (5, vi r1), (12, vb (r1 == (-1)))], stab [(0, .lst true (some 4) (List.map eapi_Pol a0))], 1⟩ ?_ ?_
 ·
  refine q1 (vi r1) ?_
  refine q1 (vb (r1 == (-1))) ?_
  exact nR [0]
 by_cases hc2 : (r1 == (-1)) = true
 ·
  replace h := iteT hc2 h
  refine NWp.condT (t := (r1 == (-1))) rfl hc2 ?_
  refine NWp.opsJ ⟨tab [(4, .loc 0 0 a0.length)], stab [(0, .lst true (some 4) (List.map eapi_Pol a0))], 1⟩ ?_ ?_
  ·
   refine q1 (.loc 0 0 a0.length) ?_
   refine q1 (.loc 0 0 a0.length) ?_
   exact nR [0]
  have hh := Option.some.inj h
  subst hh
  refine NWp.ret ?_
  exact ⟨.inr rfl, _, rfl, rfl, AllS.sub ⟨rfl, trivial⟩, rfl⟩
 ·
  replace h := iteF hc2 h
  refine NWp.condF (t := (r1 == (-1))) rfl hc2 ?_
  refine NWp.skip ?_
  refine NWp.seq ?_
  refine NWp.opsJ ⟨tab [(0, .loc 0 0 a0.length), (1, .d (.func fn_a1 cap_a1)), (5, vi r1), (6, vi (IntKind.i64.wrap (r1 + 1)))], stab [(0, .lst true (some 4) (List.map eapi_Pol a0))], 1⟩ ?_ ?_
  ·
   refine q1 (vi r1) ?_
   refine q1 (vi (IntKind.i64.wrap (r1 + 1))) ?_
   refine q1 (vi (IntKind.i64.wrap (r1 + 1))) ?_
   exact nR [0]
  obtain ⟨q20, hl, h⟩ := bindE h
  obtain ⟨z16, z17, z18⟩ := q20
  refine NWp.block ?_
  refine loop_whK (fun (qq : ((List api_Pol) × Int × Int)) => ⟨tab [(0, .loc 0 0 qq.1.length), (1, .d (.func fn_a1 cap_a1)), (5, vi qq.2.1), (6, vi qq.2.2)], stab [(0, .lst true (some 4) (List.map eapi_Pol qq.1))], 1⟩) 0 (fun (qq : ((List api_Pol) × Int × Int)) => ⟨tab [(0, .loc 0 0 qq.1.length), (5, vi qq.2.1)], stab [(0, .lst true (some 4) (List.map eapi_Pol qq.1))], 1⟩) hl ?_ ?_
  ·
   rintro ⟨l3, i4, i5⟩ xr6 h
   show NWp _ _ _ _ _ ⟨tab [(0, .loc 0 0 l3.length), (1, .d (.func fn_a1 cap_a1)), (5, vi i4), (6, vi i5)], stab [(0, .lst true (some 4) (List.map eapi_Pol l3))], 1⟩
   refine NWp.seq ?_
   refine NWp.opsJ ⟨tab [(0, .loc 0 0 l3.length), (1, .d (.func fn_a1 cap_a1)), (5, vi i4), (6, vi i5), (19, vb (decide (i5 < (l3.length : Int))))], stab [(0, .lst true (some 4) (List.map eapi_Pol l3))], 1⟩ ?_ ?_
   ·
    refine q1 (vi i5) ?_
    refine q1 (.loc 0 0 l3.length) ?_
    refine q1 (vi (l3.length : Int)) ?_
    refine q1 (vb (decide (i5 < (l3.length : Int)))) ?_
    exact nR [0]
   by_cases hc7 : decide (i5 < (l3.length : Int)) = true
   ·
    replace h := iteT hc7 h
    refine NWp.condT (t := decide (i5 < (l3.length : Int))) rfl hc7 ?_
    refine NWp.skip ?_
    obtain ⟨q15, hv, h⟩ := bindE h
    obtain ⟨l13, y14⟩ := q15
    refine NWp.seqN ⟨tab [(0, .loc 0 0 l13.length), (1, .d (.func fn_a1 cap_a1)), (5, vi y14), (6, vi i5)], stab [(0, .lst true (some 4) (List.map eapi_Pol l13))], 1⟩ ?_ ?_
    ·
     replace h := hv
     refine NWp.block ?_
     obtain ⟨x8, hx8, h⟩ := bindE h
     refine NWp.opsJ ⟨tab [(0, .loc 0 0 l3.length), (1, .d (.func fn_a1 cap_a1)), (5, vi i4), (6, vi i5), (7, .ptr 1 0 0)], stab [(0, .lst true (some 4) (List.map eapi_Pol l3)), (1, bv1 x8)], 2⟩ ?_ ?_
     ·
      refine q1 (.loc 0 0 l3.length) ?_
      refine q1 (vi i5) ?_
      refine step (v := .ptr 0 i5.toNat 0) (st_iaddrL (xs := l3) (e := eapi_Pol) hx8 rfl rfl rfl rfl) ?_
      refine step (v := vs0 x8) (st_loadLU (xs := l3) (e := eapi_Pol) hx8 rfl rfl (eu_api_Pol _) rfl) ?_
      refine step (v := .ptr 1 0 0) (σ' := (upd (stab [(0, .lst true (some 4) (List.map eapi_Pol l3))]) 1 (some (bv0)))) (n' := 2) rfl ?_
      refine step (v := V.undef) (σ' := (upd (upd (stab [(0, .lst true (some 4) (List.map eapi_Pol l3))]) 1 (some (bv0))) 1 (some (bv1 x8)))) (n' := 2) rfl ?_
      exact nR [0, 1]
     obtain ⟨x9, hx9, h⟩ := bindE h
     refine NWp.opsJ ⟨tab [(0, .loc 0 0 l3.length), (1, .d (.func fn_a1 cap_a1)), (5, vi i4), (6, vi i5), (7, .ptr 1 0 0), (29, vb (!x9))], stab [(0, .lst true (some 4) (List.map eapi_Pol l3)), (1, bv1 x8)], 2⟩ ?_ ?_
     ·
      refine q1 (.d (.func fn_a1 cap_a1)) ?_
      refine step (v := vs0 x8) (st_ldV (ds := [.int .i64 x8.Op, .int .i64 x8.F, .int .u16 x8.N, eL (some 4) eapi_Pol x8.Kids]) rfl rfl (show 4 ≤ 4 by decide) rfl) ?_
      refine stepV' (r := .bool x9) rfl (ArgsOk.dt ArgsOk.nil') (hc_a1 _ _ hx9) ?_
      refine q1 (vb (!x9)) ?_
      exact nR [0, 1]
     by_cases hc10 : (!x9) = true
     ·
      replace h := iteT hc10 h
      refine NWp.condT (t := (!x9)) rfl hc10 ?_
      obtain ⟨x11, hx11, h⟩ := bindE h
      obtain ⟨l12, hl12, h⟩ := bindE h
      refine NWp.opsJ ⟨tab [(0, .loc 0 0 l12.length), (1, .d (.func fn_a1 cap_a1)), (5, vi i4), (6, vi i5)], stab [(0, .lst true (some 4) (List.map eapi_Pol l12))], 1⟩ ?_ ?_
      ·
       refine q1 (.loc 0 0 l3.length) ?_
       refine q1 (vi i4) ?_
       refine step (v := vs0 x8) (st_ldV (ds := [.int .i64 x8.Op, .int .i64 x8.F, .int .u16 x8.N, eL (some 4) eapi_Pol x8.Kids]) rfl rfl (show 4 ≤ 4 by decide) rfl) ?_
       refine step (v := .ptr 0 i4.toNat 0) (st_iaddrL (xs := l3) (e := eapi_Pol) hx11 rfl rfl rfl rfl) ?_
       refine step (v := V.undef) (σ' := (upd (stab [(0, .lst true (some 4) (List.map eapi_Pol l3)), (1, bv1 x8)]) 0 (some (.lst true (some 4) (List.map eapi_Pol l12))))) (n' := 2) (st_storeLU' (e := eapi_Pol) (v' := x8) hl12 rfl rfl rfl (eu_api_Pol _) rfl rfl) ?_
       exact RunOps.nil' (nm [0] ⟨.le (id := 0) (gput_len hl12).symm (show 0 < 1 by decide), .d _, .d _, .d _, trivial⟩ ⟨⟨show 0 < 1 by decide, _, rfl, .lst _ _ _⟩, trivial⟩)
      have hh := Option.some.inj h
      obtain ⟨he0, ht0⟩ := Prod.mk.inj hh
      subst he0
      subst ht0
      refine NWp.opsE ⟨tab [(0, .loc 0 0 l12.length), (1, .d (.func fn_a1 cap_a1)), (5, vi (IntKind.i64.wrap (i4 + 1))), (6, vi i5)], stab [(0, .lst true (some 4) (List.map eapi_Pol l12))], 1⟩ ?_ ?_
      ·
       refine q1 (vi i4) ?_
       refine q1 (vi (IntKind.i64.wrap (i4 + 1))) ?_
       refine q1 (vi (IntKind.i64.wrap (i4 + 1))) ?_
       exact nR [0]
      exact And.intro rfl rfl
     ·
      replace h := iteF hc10 h
      refine NWp.condF (t := (!x9)) rfl hc10 ?_
      have hh := Option.some.inj h
      obtain ⟨he0, ht0⟩ := Prod.mk.inj hh
      subst he0
      subst ht0
      refine NWp.norm (s0 := ⟨tab [(0, .loc 0 0 l3.length), (1, .d (.func fn_a1 cap_a1)), (5, vi i4), (6, vi i5)], stab [(0, .lst true (some 4) (List.map eapi_Pol l3))], 1⟩) (nr [0]) ?_
      refine NWp.skip ?_
      exact And.intro rfl rfl
    have hh := Option.some.inj h
    subst hh
    refine NWp.opsE ⟨tab [(0, .loc 0 0 l13.length), (1, .d (.func fn_a1 cap_a1)), (5, vi y14), (6, vi (IntKind.i64.wrap (i5 + 1)))], stab [(0, .lst true (some 4) (List.map eapi_Pol l13))], 1⟩ ?_ ?_
    ·
     refine q1 (vi i5) ?_
     refine q1 (vi (IntKind.i64.wrap (i5 + 1))) ?_
     refine q1 (vi (IntKind.i64.wrap (i5 + 1))) ?_
     exact nR [0]
    exact And.intro rfl rfl
   ·
    replace h := iteF hc7 h
    refine NWp.condF (t := decide (i5 < (l3.length : Int))) rfl hc7 ?_
    have hh := Option.some.inj h
    subst hh
    refine NWp.norm (s0 := ⟨tab [(0, .loc 0 0 l3.length), (5, vi i4)], stab [(0, .lst true (some 4) (List.map eapi_Pol l3))], 1⟩) (nr [0]) ?_
    refine NWp.exit ?_
    exact And.intro rfl rfl
  obtain ⟨l19, hl19, h⟩ := bindE h
  refine NWp.opsJ ⟨tab [(0, .loc 0 0 z16.length), (5, vi z17)], stab [(0, .lst true (some 4) (List.map eapi_Pol (z16.take z17.toNat)))], 1⟩ ?_ ?_
  ·
   refine q1 (.loc 0 0 z16.length) ?_
   refine q1 (vi z17) ?_
   refine step (v := .loc 0 z17.toNat ((z16.length : Int).toNat - z17.toNat)) (st_slcL (xs := z16) (e := eapi_Pol) hl19 rfl rfl rfl ⟨_, rfl⟩ rfl) ?_
   refine step (v := .d (.tup [])) (σ' := (upd (stab [(0, .lst true (some 4) (List.map eapi_Pol z16))]) 0 (some (.lst true (some 4) (List.map eapi_Pol (z16.take z17.toNat)))))) (n' := 1) (st_clear (xs := z16) (e := eapi_Pol) rfl rfl (by have := gcut_bnd hl19; omega)) ?_
   exact nR [0]
  refine NWp.opsJ ⟨tab [(4, .loc 0 0 ((z16.take z17.toNat).length))], stab [(0, .lst true (some 4) (List.map eapi_Pol (z16.take z17.toNat)))], 1⟩ ?_ ?_
  ·
   refine q1 (.loc 0 0 z16.length) ?_
   refine q1 (vi z17) ?_
   refine step (v := .loc 0 0 ((z16.take z17.toNat).length)) (st_slcT (xs := z16) (e := eapi_Pol) hl19 rfl rfl rfl rfl ⟨_, rfl⟩) ?_
   refine q1 (.loc 0 0 ((z16.take z17.toNat).length)) ?_
   exact nR [0]
  have hh := Option.some.inj h
  subst hh
  refine NWp.ret ?_
  exact ⟨.inr rfl, _, rfl, rfl, AllS.sub ⟨rfl, trivial⟩, rfl⟩

theorem c_trim_without {a0 : Int} {a1 : (List api_Pol)} {r : (List api_Pol)} (h : trim_without a0 a1 = some r) : SCall Try.prog 101 [vi a0, .loc 0 0 a1.length] (stab [(0, .lst true (some 4) (List.map eapi_Pol a1))]) 1 (.loc 0 0 r.length) (stab [(0, .lst true (some 4) (List.map eapi_Pol r))]) 1 := by
 refine SCall.introN (bl := [(0, .lst true (some 4) (List.map eapi_Pol a1))]) (bl' := [(0, .lst true (some 4) (List.map eapi_Pol r))]) ok101 (show 2 ≤ 8 by decide) rfl ?_
 refine NWp.norm (s0 := ⟨tab [(0, vi a0), (1, .loc 0 0 a1.length)], stab [(0, .lst true (some 4) (List.map eapi_Pol a1))], 1⟩) (nr [0]) ?_
 refine NWp.opsJ ⟨tab [(1, .loc 0 0 a1.length), (2, .d (.cptr none (.int .i64 a0) 0))], stab [(0, .lst true (some 4) (List.map eapi_Pol a1))], 1⟩ ?_ ?_
 ·
  refine q1 (.d (.cptr none (.int .i64 a0) 0)) ?_
  refine q1 (vl0 ([] : List api_Pol)) ?_
  exact nR [0]
 obtain ⟨r1, hr1, h⟩ := bindE h
 refine NWp.opsJ ⟨tab [(4, .loc 0 0 r1.length)], stab [(0, .lst true (some 4) (List.map eapi_Pol r1))], 1⟩ ?_ ?_
 ·
  refine q1 (.loc 0 0 a1.length) ?_
  refine q1 (.d (.func 116 [.cptr none (.int .i64 a0) 0])) ?_
  refine stepW (v := .loc 0 0 r1.length) (σ' := (upd (upd (stab [(0, .lst true (some 4) (List.map eapi_Pol a1))]) 0 none) 0 (some (.lst true (some 4) (List.map eapi_Pol r1))))) (n' := 1) (SCall.lift [0] (c_slices_DeleteFunc_api_Pol ⟨116, [.cptr none (.int .i64 a0) 0], rfl, fun _ _ h => c_trim_without_1 h⟩ hr1) (show 1 ≤ 1 by decide) (by decide) (show ∀ i ∈ [0], i < 1 by decide) (dom_c (show 0 < 1 by decide) dom_n) (VNs.c (.lc 0) (VNs.c (.d _) VNs.nil0)) (SN.c (show 0 < 1 by decide) rfl (.lst _ _ _) SN.nil0)) (show 1 ≤ 1 by decide) ?_
  refine q1 (.loc 0 0 r1.length) ?_
  exact nR [0]
 have hh := Option.some.inj h
 subst hh
 refine NWp.ret ?_
 exact ⟨.inr rfl, _, rfl, rfl, AllS.sub ⟨rfl, trivial⟩, rfl⟩

theorem c_slices_EqualFunc_api_Pol {a0 : (List api_Pol)} {a1 : (List api_Pol)} {a2 : api_Pol → api_Pol → Option Bool} {g_a2 : D} (hf_a2 : Fn2 Try.prog g_a2 uapi_Pol uapi_Pol D.bool a2) {r : Bool} (h : slices_EqualFunc_api_Pol a0 a1 a2 = some r) : PCall Try.prog 95 [eL (some 4) eapi_Pol a0, eL (some 4) eapi_Pol a1, g_a2] (.bool r) := by
 obtain ⟨fn_a2, cap_a2, rfl, hc_a2⟩ := hf_a2
 refine PCall.introN ok95 (show 3 ≤ 32 by decide) ?_
 refine NWp.norm (s0 := ⟨tab [(0, vl0 a0), (1, vl0 a1), (2, .d (.func fn_a2 cap_a2))], stab [], 0⟩) (nr []) ?_
 refine NWp.opsJ ⟨tab [(0, vl0 a0), (1, vl0 a1), (2, .d (.func fn_a2 cap_a2))], stab [], 0⟩ ?_ ?_
 ·
  refine q1 (vb false) ?_
  exact nR []
 refine NWp.seq ?_
 refine NWp.opsJ ⟨tab [(0, vl0 a0), (1, vl0 a1), (2, .d (.func fn_a2 cap_a2)), (14, vb ((a0.length : Int) != (a1.length : Int)))], stab [], 0⟩ ?_ ?_
 ·
  refine q1 (vl0 a0) ?_
  refine step (v := vi (a0.length : Int)) (st_len (xs := a0) (e := eapi_Pol) rfl) ?_
  refine q1 (vl0 a1) ?_
  refine step (v := vi (a1.length : Int)) (st_len (xs := a1) (e := eapi_Pol) rfl) ?_
  refine q1 (vb ((a0.length : Int) != (a1.length : Int))) ?_
  exact nR []
 by_cases hc1 : ((a0.length : Int) != (a1.length : Int)) = true
 ·
  replace h := iteT hc1 h
  refine NWp.condT (t := ((a0.length : Int) != (a1.length : Int))) rfl hc1 ?_
  refine NWp.opsJ ⟨tab [(6, vb false)], stab [], 0⟩ ?_ ?_
  ·
   refine q1 (vb false) ?_
   exact nR []
  have hh := Option.some.inj h
  subst hh
  refine NWp.ret ?_
  show FQ _ _ _ _
  exact FQ.mk1 (.inr rfl) (res_t (v := vb false) rfl rfl) (RV.d trivial)
 ·
  replace h := iteF hc1 h
  refine NWp.condF (t := ((a0.length : Int) != (a1.length : Int))) rfl hc1 ?_
  refine NWp.skip ?_
  refine NWp.seq ?_
  refine NWp.opsJ ⟨tab [(1, vl0 a1), (2, .d (.func fn_a2 cap_a2)), (15, vl0 a0), (16, vi (a0.length : Int)), (17, vi 0)], stab [], 0⟩ ?_ ?_
  ·
   refine q1 (vl0 a0) ?_
   refine step (v := vi (a0.length : Int)) (st_len (xs := a0) (e := eapi_Pol) rfl) ?_
   refine q1 (vi 0) ?_
   exact nR []
  obtain ⟨q12, hl, h⟩ := bindE h
  refine NWp.block ?_
  refine loop_forR (cntU (a0.length : Int)) (fun (i2 : Int) (qq : Unit) => ⟨tab [(1, vl0 a1), (2, .d (.func fn_a2 cap_a2)), (15, vl0 a0), (16, vi (a0.length : Int)), (17, vi i2)], stab [], 0⟩) 0 (fun (qq : Unit) => ⟨tab [], stab [], 0⟩) Low low_step (r := r) hl (by unfold Low; omega) ?_ ?_ ?_ ?_
  ·
   rintro i2 ⟨⟩ xr7 hinv5 hgo4 h
   show NWp _ _ _ _ _ ⟨tab [(1, vl0 a1), (2, .d (.func fn_a2 cap_a2)), (15, vl0 a0), (16, vi (a0.length : Int)), (17, vi i2)], stab [], 0⟩
   have hc6 : decide (i2 < (a0.length : Int)) = true := decide_eq_true hgo4
   refine NWp.opsJ ⟨tab [(1, vl0 a1), (2, .d (.func fn_a2 cap_a2)), (15, vl0 a0), (16, vi (a0.length : Int)), (17, vi i2), (18, vb (decide (i2 < (a0.length : Int))))], stab [], 0⟩ ?_ ?_
   ·
    refine q1 (vb (decide (i2 < (a0.length : Int)))) ?_
    exact nR []
   refine NWp.rng 16 rfl fun hB3 => ?_
   refine NWp.seq ?_
   refine NWp.condT (t := decide (i2 < (a0.length : Int))) rfl hc6 ?_
   refine NWp.skip ?_
   refine NWp.seq ?_
   refine NWp.block ?_
   obtain ⟨x8, hx8, h⟩ := bindE h
   refine NWp.opsJ ⟨tab [(1, vl0 a1), (2, .d (.func fn_a2 cap_a2)), (7, vi i2), (8, .ptr 0 0 0), (15, vl0 a0), (16, vi (a0.length : Int)), (17, vi i2)], stab [(0, bv1 x8)], 1⟩ ?_ ?_
   ·
    refine q1 (vi i2) ?_
    refine step (v := vp0 x8) (st_iaddrU (xs := a0) (e := eapi_Pol) hx8 rfl rfl (eu_api_Pol _)) ?_
    refine q1 (vs0 x8) ?_
    refine step (v := .ptr 0 0 0) (σ' := (upd (stab []) 0 (some (bv0)))) (n' := 1) rfl ?_
    refine q1 (vi i2) ?_
    refine step (v := V.undef) (σ' := (upd (upd (stab []) 0 (some (bv0))) 0 (some (bv1 x8)))) (n' := 1) rfl ?_
    exact nR [0]
   obtain ⟨x9, hx9, h⟩ := bindE h
   refine NWp.opsJ ⟨tab [(1, vl0 a1), (2, .d (.func fn_a2 cap_a2)), (8, .ptr 0 0 0), (9, .ptr 1 0 0), (15, vl0 a0), (16, vi (a0.length : Int)), (17, vi i2)], stab [(0, bv1 x8), (1, bv1 x9)], 2⟩ ?_ ?_
   ·
    refine q1 (vl0 a1) ?_
    refine q1 (vi i2) ?_
    refine step (v := vp0 x9) (st_iaddrU (xs := a1) (e := eapi_Pol) hx9 rfl rfl (eu_api_Pol _)) ?_
    refine q1 (vs0 x9) ?_
    refine step (v := .ptr 1 0 0) (σ' := (upd (stab [(0, bv1 x8)]) 1 (some (bv0)))) (n' := 2) rfl ?_
    refine step (v := V.undef) (σ' := (upd (upd (stab [(0, bv1 x8)]) 1 (some (bv0))) 1 (some (bv1 x9)))) (n' := 2) rfl ?_
    exact nR [0, 1]
   obtain ⟨x10, hx10, h⟩ := bindE h
   refine NWp.opsJ ⟨tab [(1, vl0 a1), (2, .d (.func fn_a2 cap_a2)), (15, vl0 a0), (16, vi (a0.length : Int)), (17, vi i2), (30, vb (!x10))], stab [], 0⟩ ?_ ?_
   ·
    refine q1 (.d (.func fn_a2 cap_a2)) ?_
    refine step (v := vs0 x8) (st_ldV (ds := [.int .i64 x8.Op, .int .i64 x8.F, .int .u16 x8.N, eL (some 4) eapi_Pol x8.Kids]) rfl rfl (show 4 ≤ 4 by decide) rfl) ?_
    refine step (v := vs0 x9) (st_ldV (ds := [.int .i64 x9.Op, .int .i64 x9.F, .int .u16 x9.N, eL (some 4) eapi_Pol x9.Kids]) rfl rfl (show 4 ≤ 4 by decide) rfl) ?_
    refine stepV' (r := .bool x10) rfl (ArgsOk.dt (ArgsOk.dt ArgsOk.nil')) (hc_a2 _ _ _ hx10) ?_
    refine q1 (vb (!x10)) ?_
    exact nR []
   by_cases hc11 : (!x10) = true
   ·
    replace h := iteT hc11 h
    refine NWp.condT (t := (!x10)) rfl hc11 ?_
    refine NWp.opsJ ⟨tab [(6, vb false)], stab [], 0⟩ ?_ ?_
    ·
     refine q1 (vb false) ?_
     exact nR []
    obtain ⟨r12, kr12, hr⟩ := mapE (o := some false) (g := Br.ret) h
    subst hr
    have h := kr12
    have hh := Option.some.inj h
    subst hh
    refine NWp.ret ?_
    refine And.intro (fun hn => nomatch hn) ?_
    intro hq
    have hq := hq.symm
    subst hq
    show FQ _ _ _ _
    exact FQ.mk1 (.inr rfl) (res_t (v := vb false) rfl rfl) (RV.d trivial)
   ·
    replace h := iteF hc11 h
    refine NWp.condF (t := (!x10)) rfl hc11 ?_
    refine NWp.skip ?_
    have hh := Option.some.inj h
    subst hh
    refine NWp.opsE ⟨tab [(1, vl0 a1), (2, .d (.func fn_a2 cap_a2)), (15, vl0 a0), (16, vi (a0.length : Int)), (17, vi (i2 + 1))], stab [], 0⟩ ?_ ?_
    ·
     refine step (v := vi (i2 + 1)) (st_inc (inc_ok hinv5 hgo4 hB3) rfl rfl) ?_
     refine q1 (vi (i2 + 1)) ?_
     exact nR []
    exact And.intro rfl rfl
  ·
   rintro i2 ⟨⟩ hinv5 hgo4
   show NWp _ _ _ _ _ ⟨tab [(1, vl0 a1), (2, .d (.func fn_a2 cap_a2)), (15, vl0 a0), (16, vi (a0.length : Int)), (17, vi i2)], stab [], 0⟩
   have hc6 : ¬ (decide (i2 < (a0.length : Int)) = true) := fun hq => hgo4 (of_decide_eq_true hq)
   refine NWp.opsJ ⟨tab [(1, vl0 a1), (2, .d (.func fn_a2 cap_a2)), (15, vl0 a0), (16, vi (a0.length : Int)), (17, vi i2), (18, vb (decide (i2 < (a0.length : Int))))], stab [], 0⟩ ?_ ?_
   ·
    refine q1 (vb (decide (i2 < (a0.length : Int)))) ?_
    exact nR []
   refine NWp.seq ?_
   refine NWp.condF (t := decide (i2 < (a0.length : Int))) rfl hc6 ?_
   refine NWp.norm (s0 := ⟨tab [], stab [], 0⟩) (nr []) ?_
   refine NWp.exit ?_
   exact And.intro rfl rfl
  ·
   intro r' hq
   subst hq
   exact Option.some.inj h
  rintro ⟨⟩ rfl
  refine NWp.opsJ ⟨tab [(6, vb true)], stab [], 0⟩ ?_ ?_
  ·
   refine q1 (vb true) ?_
   exact nR []
  have hh := Option.some.inj h
  subst hh
  refine NWp.ret ?_
  show FQ _ _ _ _
  exact FQ.mk1 (.inr rfl) (res_t (v := vb true) rfl rfl) (RV.d trivial)

theorem c_trim_same_s {self : api_Pol → api_Pol → Option Bool} (hself : ∀ (a0 : api_Pol) (a1 : api_Pol) (r : Bool), self a0 a1 = some r → PCall Try.prog 77 [uapi_Pol a0, uapi_Pol a1] (.bool r)) {a0 : api_Pol} {a1 : api_Pol} {r : Bool} (h : trim_same_s self a0 a1 = some r) : PCall Try.prog 77 [uapi_Pol a0, uapi_Pol a1] (.bool r) := by
 refine PCall.introN ok77 (show 2 ≤ 31 by decide) ?_
 refine NWp.norm (s0 := ⟨tab [(0, vs0 a0), (1, vs0 a1)], stab [], 0⟩) (nr []) ?_
 refine NWp.opsJ ⟨tab [(2, vp0 a0), (3, vp0 a1)], stab [], 0⟩ ?_ ?_
 ·
  refine q1 (vp0 a0) ?_
  refine q1 (vp0 a1) ?_
  refine q1 (vb false) ?_
  exact nR []
 obtain ⟨y5, hv, h⟩ := bindE h
 refine NWp.opsJ ⟨tab [(4, vb y5)], stab [], 0⟩ ?_ ?_
 ·
  refine q1 (vp0 a0) ?_
  refine q1 (vi a0.Op) ?_
  refine q1 (vp0 a1) ?_
  refine q1 (vi a1.Op) ?_
  refine q1 (vb (a0.Op == a1.Op)) ?_
  refine q1 (vb (a0.Op == a1.Op)) ?_
  by_cases hg1 : (a0.Op == a1.Op) = true
  ·
   replace hv := iteT hg1 hv
   refine qG (a0.Op == a1.Op) hg1 ?_
   refine q1 (.d (.cptr (some 4) (uapi_Pol a0) 1)) ?_
   refine qG (a0.Op == a1.Op) hg1 ?_
   refine q1 (vi a0.F) ?_
   refine qG (a0.Op == a1.Op) hg1 ?_
   refine q1 (.d (.cptr (some 4) (uapi_Pol a1) 1)) ?_
   refine qG (a0.Op == a1.Op) hg1 ?_
   refine q1 (vi a1.F) ?_
   refine qG (a0.Op == a1.Op) hg1 ?_
   refine q1 (vb (a0.F == a1.F)) ?_
   refine step (v := vb (a0.F == a1.F)) (st_pickT (b := (a0.Op == a1.Op)) rfl hg1 rfl) ?_
   refine q1 (vb (a0.F == a1.F)) ?_
   by_cases hg2 : (a0.F == a1.F) = true
   ·
    replace hv := iteT hg2 hv
    refine qG (a0.F == a1.F) hg2 ?_
    refine q1 (.d (.cptr (some 4) (uapi_Pol a0) 2)) ?_
    refine qG (a0.F == a1.F) hg2 ?_
    refine q1 (vh a0.N) ?_
    refine qG (a0.F == a1.F) hg2 ?_
    refine q1 (.d (.cptr (some 4) (uapi_Pol a1) 2)) ?_
    refine qG (a0.F == a1.F) hg2 ?_
    refine q1 (vh a1.N) ?_
    refine qG (a0.F == a1.F) hg2 ?_
    refine q1 (vb (a0.N == a1.N)) ?_
    refine step (v := vb (a0.N == a1.N)) (st_pickT (b := (a0.F == a1.F)) rfl hg2 rfl) ?_
    refine q1 (vb (a0.N == a1.N)) ?_
    by_cases hg3 : (a0.N == a1.N) = true
    ·
     replace hv := iteT hg3 hv
     obtain ⟨r4, hr4, hv⟩ := bindE hv
     refine qG (a0.N == a1.N) hg3 ?_
     refine q1 (.d (.cptr (some 4) (uapi_Pol a0) 3)) ?_
     refine qG (a0.N == a1.N) hg3 ?_
     refine q1 (vl0 a0.Kids) ?_
     refine qG (a0.N == a1.N) hg3 ?_
     refine q1 (.d (.cptr (some 4) (uapi_Pol a1) 3)) ?_
     refine qG (a0.N == a1.N) hg3 ?_
     refine q1 (vl0 a1.Kids) ?_
     refine qG (a0.N == a1.N) hg3 ?_
     refine stepC (r := .bool r4) (ArgsOk.dt (ArgsOk.dt (ArgsOk.dt ArgsOk.nil'))) (c_slices_EqualFunc_api_Pol ⟨77, [], rfl, fun _ _ _ h => hself _ _ _ h⟩ hr4) ?_
     refine step (v := vb r4) (st_pickT (b := (a0.N == a1.N)) rfl hg3 rfl) ?_
     refine q1 (vb r4) ?_
     have hh := Option.some.inj hv
     subst hh
     exact nR []
    ·
     replace hv := iteF hg3 hv
     refine qX (a0.N == a1.N) hg3 ?_
     refine qX (a0.N == a1.N) hg3 ?_
     refine qX (a0.N == a1.N) hg3 ?_
     refine qX (a0.N == a1.N) hg3 ?_
     refine qX (a0.N == a1.N) hg3 ?_
     refine step (v := vb false) (st_pickF (b := (a0.N == a1.N)) rfl hg3 rfl) ?_
     refine q1 (vb false) ?_
     have hh := Option.some.inj hv
     subst hh
     exact nR []
   ·
    replace hv := iteF hg2 hv
    refine qX (a0.F == a1.F) hg2 ?_
    refine qX (a0.F == a1.F) hg2 ?_
    refine qX (a0.F == a1.F) hg2 ?_
    refine qX (a0.F == a1.F) hg2 ?_
    refine qX (a0.F == a1.F) hg2 ?_
    refine step (v := vb false) (st_pickF (b := (a0.F == a1.F)) rfl hg2 rfl) ?_
    refine q1 (vb false) ?_
    refine qX false (by decide) ?_
    refine qX false (by decide) ?_
    refine qX false (by decide) ?_
    refine qX false (by decide) ?_
    refine qX false (by decide) ?_
    refine step (v := vb false) (st_pickF (b := false) rfl (by decide) rfl) ?_
    refine q1 (vb false) ?_
    have hh := Option.some.inj hv
    subst hh
    exact nR []
  ·
   replace hv := iteF hg1 hv
   refine qX (a0.Op == a1.Op) hg1 ?_
   refine qX (a0.Op == a1.Op) hg1 ?_
   refine qX (a0.Op == a1.Op) hg1 ?_
   refine qX (a0.Op == a1.Op) hg1 ?_
   refine qX (a0.Op == a1.Op) hg1 ?_
   refine step (v := vb false) (st_pickF (b := (a0.Op == a1.Op)) rfl hg1 rfl) ?_
   refine q1 (vb false) ?_
   refine qX false (by decide) ?_
   refine qX false (by decide) ?_
   refine qX false (by decide) ?_
   refine qX false (by decide) ?_
   refine qX false (by decide) ?_
   refine step (v := vb false) (st_pickF (b := false) rfl (by decide) rfl) ?_
   refine q1 (vb false) ?_
   refine qX false (by decide) ?_
   refine qX false (by decide) ?_
   refine qX false (by decide) ?_
   refine qX false (by decide) ?_
   refine qX false (by decide) ?_
   refine step (v := vb false) (st_pickF (b := false) rfl (by decide) rfl) ?_
   refine q1 (vb false) ?_
   have hh := Option.some.inj hv
   subst hh
   exact nR []
 have hh := Option.some.inj h
 subst hh
 refine NWp.ret ?_
 show FQ _ _ _ _
 exact FQ.mk1 (.inr rfl) (res_t (v := vb y5) rfl rfl) (RV.d trivial)

theorem c_trim_same_f : ∀ (k : Nat) (a0 : api_Pol) (a1 : api_Pol) (r : Bool), trim_same_f k a0 a1 = some r → PCall Try.prog 77 [uapi_Pol a0, uapi_Pol a1] (.bool r)
 | 0, _, _, _, h => by cases h
 | k + 1, _, _, _, h => c_trim_same_s (c_trim_same_f k) h

theorem c_trim_same {a0 : api_Pol} {a1 : api_Pol} {r : Bool} (h : trim_same a0 a1 = some r) : PCall Try.prog 77 [uapi_Pol a0, uapi_Pol a1] (.bool r) := c_trim_same_f FUEL _ _ _ h

theorem c_trim_sum_1 {a0 : api_Pol} {a1 : api_Pol} {r : Bool} (h : trim_sum_1 a0 a1 = some r) : PCall Try.prog 103 [uapi_Pol a0, .cptr (some 4) (uapi_Pol a1) 0] (.bool r) := by
 refine PCall.introN ok103 (show 2 ≤ 7 by decide) ?_
 refine NWp.norm (s0 := ⟨tab [(0, vs0 a0), (1, vp0 a1)], stab [], 0⟩) (nr []) ?_
 refine NWp.opsJ ⟨tab [(1, vp0 a1), (2, vp0 a0)], stab [], 0⟩ ?_ ?_
 ·
  refine q1 (vp0 a0) ?_
  refine q1 (vb false) ?_
  exact nR []
 obtain ⟨r1, hr1, h⟩ := bindE h
 refine NWp.opsJ ⟨tab [(3, vb r1)], stab [], 0⟩ ?_ ?_
 ·
  refine q1 (vs0 a0) ?_
  refine q1 (vs0 a1) ?_
  refine stepC (r := .bool r1) (ArgsOk.dt (ArgsOk.dt ArgsOk.nil')) (c_trim_same hr1) ?_
  refine q1 (vb r1) ?_
  exact nR []
 have hh := Option.some.inj h
 subst hh
 refine NWp.ret ?_
 show FQ _ _ _ _
 exact FQ.mk1 (.inr rfl) (res_t (v := vb r1) rfl rfl) (RV.d trivial)

theorem c_trim_has_1 {a0 : api_Pol} {a1 : Int} {r : Bool} (h : trim_has_1 a0 a1 = some r) : PCall Try.prog 117 [uapi_Pol a0, .cptr none (.int .i64 a1) 0] (.bool r) := by
 refine PCall.introN ok117 (show 2 ≤ 8 by decide) ?_
 refine NWp.norm (s0 := ⟨tab [(0, vs0 a0), (1, .d (.cptr none (.int .i64 a1) 0))], stab [], 0⟩) (nr []) ?_
 refine NWp.opsJ ⟨tab [(1, .d (.cptr none (.int .i64 a1) 0)), (2, vp0 a0)], stab [], 0⟩ ?_ ?_
 ·
  refine q1 (vp0 a0) ?_
  refine q1 (vb false) ?_
  exact nR []
 refine NWp.opsJ ⟨tab [(3, vb (a0.Op == a1))], stab [], 0⟩ ?_ ?_
 ·
  refine q1 (vp0 a0) ?_
  refine q1 (vi a0.Op) ?_
  refine q1 (vi a1) ?_
  refine q1 (vb (a0.Op == a1)) ?_
  refine q1 (vb (a0.Op == a1)) ?_
  exact nR []
 have hh := Option.some.inj h
 subst hh
 refine NWp.ret ?_
 show FQ _ _ _ _
 exact FQ.mk1 (.inr rfl) (res_t (v := vb (a0.Op == a1)) rfl rfl) (RV.d trivial)

theorem c_trim_has {a0 : Int} {a1 : (List api_Pol)} {r : Bool} (h : trim_has a0 a1 = some r) : PCall Try.prog 104 [.int .i64 a0, eL (some 4) eapi_Pol a1] (.bool r) := by
 refine PCall.introN ok104 (show 2 ≤ 8 by decide) ?_
 refine NWp.norm (s0 := ⟨tab [(0, vi a0), (1, vl0 a1)], stab [], 0⟩) (nr []) ?_
 refine NWp.opsJ ⟨tab [(1, vl0 a1), (2, .d (.cptr none (.int .i64 a0) 0))], stab [], 0⟩ ?_ ?_
 ·
  refine q1 (.d (.cptr none (.int .i64 a0) 0)) ?_
  refine q1 (vb false) ?_
  exact nR []
 obtain ⟨r1, hr1, h⟩ := bindE h
 refine NWp.opsJ ⟨tab [(4, vb r1)], stab [], 0⟩ ?_ ?_
 ·
  refine q1 (vl0 a1) ?_
  refine q1 (.d (.func 117 [.cptr none (.int .i64 a0) 0])) ?_
  refine stepC (r := .bool r1) (ArgsOk.dt (ArgsOk.dt ArgsOk.nil')) (c_slices_ContainsFunc_api_Pol ⟨117, [.cptr none (.int .i64 a0) 0], rfl, fun _ _ h => c_trim_has_1 h⟩ hr1) ?_
  refine q1 (vb r1) ?_
  exact nR []
 have hh := Option.some.inj h
 subst hh
 refine NWp.ret ?_
 show FQ _ _ _ _
 exact FQ.mk1 (.inr rfl) (res_t (v := vb r1) rfl rfl) (RV.d trivial)

theorem c_trim_sum_2 {a0 : api_Pol} {r : Bool} (h : trim_sum_2 a0 = some r) : PCall Try.prog 105 [uapi_Pol a0] (.bool r) := by
 refine PCall.introN ok105 (show 1 ≤ 6 by decide) ?_
 refine NWp.norm (s0 := ⟨tab [(0, vs0 a0)], stab [], 0⟩) (nr []) ?_
 refine NWp.opsJ ⟨tab [(1, vp0 a0)], stab [], 0⟩ ?_ ?_
 ·
  refine q1 (vp0 a0) ?_
  refine q1 (vb false) ?_
  exact nR []
 obtain ⟨r1, hr1, h⟩ := bindE h
 refine NWp.opsJ ⟨tab [(2, vb (!r1))], stab [], 0⟩ ?_ ?_
 ·
  refine q1 (vs0 a0) ?_
  refine stepC (r := .bool r1) (ArgsOk.dt ArgsOk.nil') (c_syntax_Predicate hr1) ?_
  refine q1 (vb (!r1)) ?_
  refine q1 (vb (!r1)) ?_
  exact nR []
 have hh := Option.some.inj h
 subst hh
 refine NWp.ret ?_
 show FQ _ _ _ _
 exact FQ.mk1 (.inr rfl) (res_t (v := vb (!r1)) rfl rfl) (RV.d trivial)

theorem c_trim_id  {r : api_Pol} (h : trim_id  = some r) : PCall Try.prog 106 [] (uapi_Pol r) := by
 refine PCall.introN ok106 (show 0 ≤ 2 by decide) ?_
 refine NWp.norm (s0 := ⟨tab [], stab [], 0⟩) (nr []) ?_
 refine NWp.opsJ ⟨tab [(0, .ptr 0 0 0)], stab [(0, bv0)], 1⟩ ?_ ?_
 ·
  refine step (v := .ptr 0 0 0) (σ' := (upd (stab []) 0 (some (bv0)))) (n' := 1) rfl ?_
  exact nR [0]
 refine NWp.opsJ ⟨tab [(0, .ptr 0 0 0)], stab [(0, .var [vi 1, vi 0, vh 0, vl0 []])], 1⟩ ?_ ?_
 ·
  refine step (v := vs0 (api_Pol.mk 1 0 0 [])) (st_build (ds := [.int .i64 1, .int .i64 0, .int .u16 0, eL (some 4) eapi_Pol []]) rfl) ?_
  refine step (v := V.undef) (σ' := (upd (stab [(0, bv0)]) 0 (some (.var [vi 1, vi 0, vh 0, vl0 []])))) (n' := 1) rfl ?_
  exact nR [0]
 have hh := Option.some.inj h
 subst hh
 refine NWp.ret ?_
 show FQ _ _ _ _
 exact FQ.mk1 (.inr rfl) (res_cell (ds := [.int .i64 1, .int .i64 0, .int .u16 0, eL (some 4) eapi_Pol []]) rfl rfl (show 4 ≤ 4 by decide) rfl rfl) (RV.d trivial)

theorem c_trim_drop  {r : api_Pol} (h : trim_drop  = some r) : PCall Try.prog 107 [] (uapi_Pol r) := by
 refine PCall.introN ok107 (show 0 ≤ 2 by decide) ?_
 refine NWp.norm (s0 := ⟨tab [], stab [], 0⟩) (nr []) ?_
 refine NWp.opsJ ⟨tab [(0, .ptr 0 0 0)], stab [(0, bv0)], 1⟩ ?_ ?_
 ·
  refine step (v := .ptr 0 0 0) (σ' := (upd (stab []) 0 (some (bv0)))) (n' := 1) rfl ?_
  exact nR [0]
 refine NWp.opsJ ⟨tab [(0, .ptr 0 0 0)], stab [(0, bv0)], 1⟩ ?_ ?_
 ·
  refine step (v := vs0 (api_Pol.mk 0 0 0 [])) (st_build (ds := [.int .i64 0, .int .i64 0, .int .u16 0, eL (some 4) eapi_Pol []]) rfl) ?_
  refine step (v := V.undef) (σ' := (upd (stab [(0, bv0)]) 0 (some (bv0)))) (n' := 1) rfl ?_
  exact nR [0]
 have hh := Option.some.inj h
 subst hh
 refine NWp.ret ?_
 show FQ _ _ _ _
 exact FQ.mk1 (.inr rfl) (res_cell (ds := [.int .i64 0, .int .i64 0, .int .u16 0, eL (some 4) eapi_Pol []]) rfl rfl (show 4 ≤ 4 by decide) rfl rfl) (RV.d trivial)

theorem c_trim_sum {a0 : (List api_Pol)} {r : api_Pol} (h : trim_sum a0 = some r) : PCall Try.prog 92 [eL (some 4) eapi_Pol a0] (uapi_Pol r) := by
 refine PCall.introN ok92 (show 1 ≤ 44 by decide) ?_
 refine NWp.norm (s0 := ⟨tab [(0, vl0 a0)], stab [], 0⟩) (nr []) ?_
 refine NWp.opsJ ⟨tab [(0, vl0 a0), (2, .ptr 0 0 0)], stab [(0, bv0)], 1⟩ ?_ ?_
 ·
  refine step (v := .ptr 0 0 0) (σ' := (upd (stab []) 0 (some (bv0)))) (n' := 1) rfl ?_
  exact nR [0]
 obtain ⟨r1, hr1, h⟩ := bindE h
 obtain ⟨r2, hr2, h⟩ := bindE h
 refine NWp.opsJ ⟨tab [(0, .loc 0 0 r2.length), (2, .ptr 1 0 0)], stab [(0, .lst true (some 4) (List.map eapi_Pol r2)), (1, bv0)], 2⟩ ?_ ?_
 ·
  refine q1 (vl0 a0) ?_
  refine stepW (v := .loc 1 0 r1.length) (σ' := (upd (stab [(0, bv0)]) 1 (some (.lst true (some 4) (List.map eapi_Pol r1))))) (n' := 2) (SCall.lift [] (c_trim_flat hr1) (show 0 ≤ 1 by decide) (by decide) (show ∀ i ∈ [], i < 1 by decide) (dom_c (show 0 < 1 by decide) dom_n) (VNs.c (.d _) (VNs.c (.d _) VNs.nil0)) SN.nil0) (show 1 ≤ 2 by decide) ?_
  refine stepW (v := .loc 1 0 r2.length) (σ' := (upd (upd (upd (stab [(0, bv0)]) 1 (some (.lst true (some 4) (List.map eapi_Pol r1)))) 1 none) 1 (some (.lst true (some 4) (List.map eapi_Pol r2))))) (n' := 2) (SCall.lift [1] (c_trim_without hr2) (show 1 ≤ 1 by decide) (by decide) (show ∀ i ∈ [1], i < 2 by decide) (dom_c (show 0 < 1 by decide) dom_n) (VNs.c (.d _) (VNs.c (.lc 0) VNs.nil0)) (SN.c (show 0 < 1 by decide) rfl (.lst _ _ _) SN.nil0)) (show 2 ≤ 2 by decide) ?_
  refine q1 (.loc 1 0 r2.length) ?_
  exact nR [1, 0]
 refine NWp.opsJ ⟨tab [(0, .loc 0 0 r2.length), (2, .ptr 1 0 0), (3, .d (.nils))], stab [(0, .lst true (some 4) (List.map eapi_Pol r2)), (1, bv0)], 2⟩ ?_ ?_
 ·
  refine q1 (.d (.nils)) ?_
  exact nR [0, 1]
 refine NWp.seq ?_
 refine NWp.opsJ ⟨tab [(2, .ptr 0 0 0), (3, .d (.nils)), (9, .loc 1 0 r2.length), (10, vi (r2.length : Int)), (11, vi 0)], stab [(0, bv0), (1, .lst true (some 4) (List.map eapi_Pol r2))], 2⟩ ?_ ?_
 ·
  refine q1 (.loc 0 0 r2.length) ?_
  refine q1 (vi (r2.length : Int)) ?_
  refine q1 (vi 0) ?_
  exact nR [1, 0]
 obtain ⟨z16, hl, h⟩ := bindE h
 refine NWp.norm (s0 := ⟨tab [(2, .ptr 0 0 0), (3, .loc 1 0 (([] : List api_Pol).length)), (9, .loc 2 0 r2.length), (10, vi (r2.length : Int)), (11, vi 0)], stab [(0, bv0), (1, .lst false (some 4) (List.map eapi_Pol ([] : List api_Pol))), (2, .lst true (some 4) (List.map eapi_Pol r2))], 3⟩) (Norm.trans (s2 := ⟨tab [(2, .ptr 0 0 0), (3, .loc 1 0 (([] : List api_Pol).length)), (9, .loc 2 0 r2.length), (10, vi (r2.length : Int)), (11, vi 0)], stab [(0, bv0), (1, .lst false (some 4) (List.map eapi_Pol ([] : List api_Pol))), (2, .lst true (some 4) (List.map eapi_Pol r2))], 3⟩) (Norm.nil1 3 false (some 4) rfl) (nr [0, 2, 1])) ?_
 refine NWp.block ?_
 refine loop_forO (cntU (r2.length : Int)) (fun (i4 : Int) (qq : (List api_Pol)) => ⟨tab [(2, .ptr 0 0 0), (3, .loc 1 0 qq.length), (9, .loc 2 0 r2.length), (10, vi (r2.length : Int)), (11, vi i4)], stab [(0, bv0), (1, .lst false (some 4) (List.map eapi_Pol qq)), (2, .lst true (some 4) (List.map eapi_Pol r2))], 3⟩) 0 (fun (qq : (List api_Pol)) => ⟨tab [(2, .ptr 0 0 0), (3, .loc 1 0 qq.length)], stab [(0, bv0), (1, .lst false (some 4) (List.map eapi_Pol qq))], 2⟩) Low low_step hl (by unfold Low; omega) ?_ ?_ ?_
 ·
  rintro i4 l3 xr9 hinv7 hgo6 h
  show NWp _ _ _ _ _ ⟨tab [(2, .ptr 0 0 0), (3, .loc 1 0 l3.length), (9, .loc 2 0 r2.length), (10, vi (r2.length : Int)), (11, vi i4)], stab [(0, bv0), (1, .lst false (some 4) (List.map eapi_Pol l3)), (2, .lst true (some 4) (List.map eapi_Pol r2))], 3⟩
  have hc8 : decide (i4 < (r2.length : Int)) = true := decide_eq_true hgo6
  refine NWp.opsJ ⟨tab [(2, .ptr 0 0 0), (3, .loc 1 0 l3.length), (9, .loc 2 0 r2.length), (10, vi (r2.length : Int)), (11, vi i4), (12, vb (decide (i4 < (r2.length : Int))))], stab [(0, bv0), (1, .lst false (some 4) (List.map eapi_Pol l3)), (2, .lst true (some 4) (List.map eapi_Pol r2))], 3⟩ ?_ ?_
  ·
   refine q1 (vb (decide (i4 < (r2.length : Int)))) ?_
   exact nR [0, 1, 2]
  refine NWp.rng 10 rfl fun hB5 => ?_
  refine NWp.seq ?_
  refine NWp.condT (t := decide (i4 < (r2.length : Int))) rfl hc8 ?_
  refine NWp.skip ?_
  obtain ⟨l14, hv, h⟩ := bindE h
  refine NWp.seqN ⟨tab [(2, .ptr 0 0 0), (3, .loc 1 0 l14.length), (9, .loc 2 0 r2.length), (10, vi (r2.length : Int)), (11, vi i4)], stab [(0, bv0), (1, .lst false (some 4) (List.map eapi_Pol l14)), (2, .lst true (some 4) (List.map eapi_Pol r2))], 3⟩ ?_ ?_
  ·
   replace h := hv
   refine NWp.block ?_
   obtain ⟨x10, hx10, h⟩ := bindE h
   refine NWp.opsJ ⟨tab [(2, .ptr 0 0 0), (3, .loc 1 0 l3.length), (5, .ptr 2 0 0), (9, .loc 3 0 r2.length), (10, vi (r2.length : Int)), (11, vi i4)], stab [(0, bv0), (1, .lst false (some 4) (List.map eapi_Pol l3)), (2, bv1 x10), (3, .lst true (some 4) (List.map eapi_Pol r2))], 4⟩ ?_ ?_
   ·
    refine step (v := .ptr 2 i4.toNat 0) (st_iaddrL (xs := r2) (e := eapi_Pol) hx10 rfl rfl rfl rfl) ?_
    refine step (v := vs0 x10) (st_loadLU (xs := r2) (e := eapi_Pol) hx10 rfl rfl (eu_api_Pol _) rfl) ?_
    refine step (v := .ptr 3 0 0) (σ' := (upd (stab [(0, bv0), (1, .lst false (some 4) (List.map eapi_Pol l3)), (2, .lst true (some 4) (List.map eapi_Pol r2))]) 3 (some (bv0)))) (n' := 4) rfl ?_
    refine step (v := V.undef) (σ' := (upd (upd (stab [(0, bv0), (1, .lst false (some 4) (List.map eapi_Pol l3)), (2, .lst true (some 4) (List.map eapi_Pol r2))]) 3 (some (bv0))) 3 (some (bv1 x10)))) (n' := 4) rfl ?_
    exact nR [0, 1, 3, 2]
   obtain ⟨r11, hr11, h⟩ := bindE h
   refine NWp.opsJ ⟨tab [(2, .ptr 0 0 0), (3, .loc 1 0 l3.length), (5, .ptr 2 0 0), (9, .loc 3 0 r2.length), (10, vi (r2.length : Int)), (11, vi i4), (18, vb (!r11))], stab [(0, bv0), (1, .lst false (some 4) (List.map eapi_Pol l3)), (2, bv1 x10), (3, .lst true (some 4) (List.map eapi_Pol r2))], 4⟩ ?_ ?_
   ·
    refine q1 (.loc 1 0 l3.length) ?_
    refine q1 (.func 103 [.ptr 2 0 0]) ?_
    refine stepW (v := vb r11) (σ' := _) (n' := _) (PCall.borrow (c_slices_ContainsFunc_api_Pol ⟨103, [.cptr (some 4) (uapi_Pol x10) 0], rfl, fun _ _ h => c_trim_sum_1 h⟩ hr11) rfl (ViewsB.c (viewB_all (xs := l3) (e := eapi_Pol) rfl rfl) (ViewsB.c (viewB_func (ViewsB.c (viewB_var rfl (ViewsB.c (.d _) (ViewsB.c (.d _) (ViewsB.c (.d _) (ViewsB.c (.d _) ViewsB.nil0))))) ViewsB.nil0)) ViewsB.nil0))) (Nat.le_refl _) ?_
    refine q1 (vb (!r11)) ?_
    exact nR [0, 1, 2, 3]
   by_cases hc12 : (!r11) = true
   ·
    replace h := iteT hc12 h
    refine NWp.condT (t := (!r11)) rfl hc12 ?_
    obtain ⟨l13, hl13, h⟩ := bindE h
    have hh := Option.some.inj h
    subst hh
    refine NWp.opsE ⟨tab [(2, .ptr 0 0 0), (3, .loc 1 0 l13.length), (9, .loc 2 0 r2.length), (10, vi (r2.length : Int)), (11, vi i4)], stab [(0, bv0), (1, .lst false (some 4) (List.map eapi_Pol l13)), (2, .lst true (some 4) (List.map eapi_Pol r2))], 3⟩ ?_ ?_
    ·
     refine q1 (.loc 1 0 l3.length) ?_
     refine step (v := vs0 x10) (st_ldV (ds := [.int .i64 x10.Op, .int .i64 x10.F, .int .u16 x10.N, eL (some 4) eapi_Pol x10.Kids]) rfl rfl (show 4 ≤ 4 by decide) rfl) ?_
     refine step (v := vl0 ([x10] : List api_Pol)) (st_eq rfl (by simp [eL, eu_api_Pol])) ?_
     refine step (v := .loc 4 0 l13.length) (σ' := (upd (upd (stab [(0, bv0), (1, .lst false (some 4) (List.map eapi_Pol l3)), (2, bv1 x10), (3, .lst true (some 4) (List.map eapi_Pol r2))]) 1 none) 4 (some (.lst false (some 4) (List.map eapi_Pol l13))))) (n' := 5) (st_app (xs := l3) (ys := ([x10] : List api_Pol)) (e := eapi_Pol) hl13 rfl rfl rfl (src_v (xs := ([x10] : List api_Pol)) (e := eapi_Pol) rfl)) ?_
     refine q1 (.loc 4 0 l13.length) ?_
     exact nR [0, 4, 3]
    exact And.intro rfl rfl
   ·
    replace h := iteF hc12 h
    refine NWp.condF (t := (!r11)) rfl hc12 ?_
    have hh := Option.some.inj h
    subst hh
    refine NWp.norm (s0 := ⟨tab [(2, .ptr 0 0 0), (3, .loc 1 0 l3.length), (9, .loc 2 0 r2.length), (10, vi (r2.length : Int)), (11, vi i4)], stab [(0, bv0), (1, .lst false (some 4) (List.map eapi_Pol l3)), (2, .lst true (some 4) (List.map eapi_Pol r2))], 3⟩) (nr [0, 1, 3]) ?_
    refine NWp.skip ?_
    exact And.intro rfl rfl
  have hh := Option.some.inj h
  subst hh
  refine NWp.opsE ⟨tab [(2, .ptr 0 0 0), (3, .loc 1 0 l14.length), (9, .loc 2 0 r2.length), (10, vi (r2.length : Int)), (11, vi (i4 + 1))], stab [(0, bv0), (1, .lst false (some 4) (List.map eapi_Pol l14)), (2, .lst true (some 4) (List.map eapi_Pol r2))], 3⟩ ?_ ?_
  ·
   refine step (v := vi (i4 + 1)) (st_inc (inc_ok hinv7 hgo6 hB5) rfl rfl) ?_
   refine q1 (vi (i4 + 1)) ?_
   exact nR [0, 1, 2]
  exact And.intro rfl rfl
 ·
  rintro i4 l3 hinv7 hgo6
  show NWp _ _ _ _ _ ⟨tab [(2, .ptr 0 0 0), (3, .loc 1 0 l3.length), (9, .loc 2 0 r2.length), (10, vi (r2.length : Int)), (11, vi i4)], stab [(0, bv0), (1, .lst false (some 4) (List.map eapi_Pol l3)), (2, .lst true (some 4) (List.map eapi_Pol r2))], 3⟩
  have hc8 : ¬ (decide (i4 < (r2.length : Int)) = true) := fun hq => hgo6 (of_decide_eq_true hq)
  refine NWp.opsJ ⟨tab [(2, .ptr 0 0 0), (3, .loc 1 0 l3.length), (9, .loc 2 0 r2.length), (10, vi (r2.length : Int)), (11, vi i4), (12, vb (decide (i4 < (r2.length : Int))))], stab [(0, bv0), (1, .lst false (some 4) (List.map eapi_Pol l3)), (2, .lst true (some 4) (List.map eapi_Pol r2))], 3⟩ ?_ ?_
  ·
   refine q1 (vb (decide (i4 < (r2.length : Int)))) ?_
   exact nR [0, 1, 2]
  refine NWp.seq ?_
  refine NWp.condF (t := decide (i4 < (r2.length : Int))) rfl hc8 ?_
  refine NWp.norm (s0 := ⟨tab [(2, .ptr 0 0 0), (3, .loc 1 0 l3.length)], stab [(0, bv0), (1, .lst false (some 4) (List.map eapi_Pol l3))], 2⟩) (nr [0, 1]) ?_
  refine NWp.exit ?_
  exact And.intro rfl rfl
 refine NWp.seq ?_
 obtain ⟨r17, hr17, h⟩ := bindE h
 obtain ⟨y20, hv, h⟩ := bindE h
 refine NWp.opsJ ⟨tab [(2, .ptr 0 0 0), (3, .loc 1 0 z16.length), (30, vb y20)], stab [(0, bv0), (1, .lst false (some 4) (List.map eapi_Pol z16))], 2⟩ ?_ ?_
 ·
  refine q1 (.loc 1 0 z16.length) ?_
  refine stepC (r := .bool r17) (ArgsOk.dt (ArgsOk.lcm (xs := z16) (e := eapi_Pol) rfl rfl ArgsOk.nil')) (c_trim_has hr17) ?_
  refine q1 (vb r17) ?_
  by_cases hg18 : r17 = true
  ·
   replace hv := iteT hg18 hv
   obtain ⟨r19, hr19, hv⟩ := bindE hv
   refine qG r17 hg18 ?_
   refine q1 (.loc 1 0 z16.length) ?_
   refine qG r17 hg18 ?_
   refine stepC (r := .bool r19) (ArgsOk.lcm (xs := z16) (e := eapi_Pol) rfl rfl (ArgsOk.dt ArgsOk.nil')) (c_slices_ContainsFunc_api_Pol ⟨105, [], rfl, fun _ _ h => c_trim_sum_2 h⟩ hr19) ?_
   refine qG r17 hg18 ?_
   refine q1 (vb (!r19)) ?_
   refine step (v := vb (!r19)) (st_pickT (b := r17) rfl hg18 rfl) ?_
   have hh := Option.some.inj hv
   subst hh
   exact nR [0, 1]
  ·
   replace hv := iteF hg18 hv
   refine qX r17 hg18 ?_
   refine qX r17 hg18 ?_
   refine qX r17 hg18 ?_
   refine step (v := vb false) (st_pickF (b := r17) rfl hg18 rfl) ?_
   have hh := Option.some.inj hv
   subst hh
   exact nR [0, 1]
 by_cases hc22 : y20 = true
 ·
  replace h := iteT hc22 h
  refine NWp.condT (t := y20) rfl hc22 ?_
  obtain ⟨r23, hr23, h⟩ := bindE h
  refine NWp.opsJ ⟨tab [(2, .ptr 0 0 0)], stab [(0, bv1 r23)], 1⟩ ?_ ?_
  ·
   refine stepC (r := uapi_Pol r23) ArgsOk.nil' (c_trim_id hr23) ?_
   refine step (v := V.undef) (σ' := (upd (stab [(0, bv0), (1, .lst false (some 4) (List.map eapi_Pol z16))]) 0 (some (bv1 r23)))) (n' := 2) rfl ?_
   exact nR [0]
  have hh := Option.some.inj h
  subst hh
  refine NWp.ret ?_
  show FQ _ _ _ _
  exact FQ.mk1 (.inr rfl) (res_cell (ds := [.int .i64 r23.Op, .int .i64 r23.F, .int .u16 r23.N, eL (some 4) eapi_Pol r23.Kids]) rfl rfl (show 4 ≤ 4 by decide) rfl rfl) (RV.d trivial)
 ·
  replace h := iteF hc22 h
  refine NWp.condF (t := y20) rfl hc22 ?_
  refine NWp.skip ?_
  refine NWp.seq ?_
  refine NWp.opsJ ⟨tab [(2, .ptr 0 0 0), (3, .loc 1 0 z16.length), (33, vi (z16.length : Int))], stab [(0, bv0), (1, .lst false (some 4) (List.map eapi_Pol z16))], 2⟩ ?_ ?_
  ·
   refine q1 (.loc 1 0 z16.length) ?_
   refine q1 (vi (z16.length : Int)) ?_
   exact nR [0, 1]
  refine NWp.block ?_
  refine NWp.opsJ ⟨tab [(2, .ptr 0 0 0), (3, .loc 1 0 z16.length), (33, vi (z16.length : Int)), (34, vb ((z16.length : Int) == 0))], stab [(0, bv0), (1, .lst false (some 4) (List.map eapi_Pol z16))], 2⟩ ?_ ?_
  ·
   refine q1 (vb ((z16.length : Int) == 0)) ?_
   refine q1 (vb ((z16.length : Int) == 0)) ?_
   exact nR [0, 1]
  by_cases hc24 : ((z16.length : Int) == 0) = true
  ·
   replace h := iteT hc24 h
   refine NWp.condT (t := ((z16.length : Int) == 0)) rfl hc24 ?_
   obtain ⟨r25, hr25, h⟩ := bindE h
   refine NWp.opsJ ⟨tab [(2, .ptr 0 0 0)], stab [(0, bv1 r25)], 1⟩ ?_ ?_
   ·
    refine stepC (r := uapi_Pol r25) ArgsOk.nil' (c_trim_drop hr25) ?_
    refine step (v := V.undef) (σ' := (upd (stab [(0, bv0), (1, .lst false (some 4) (List.map eapi_Pol z16))]) 0 (some (bv1 r25)))) (n' := 2) rfl ?_
    exact nR [0]
   have hh := Option.some.inj h
   subst hh
   refine NWp.ret ?_
   show FQ _ _ _ _
   exact FQ.mk1 (.inr rfl) (res_cell (ds := [.int .i64 r25.Op, .int .i64 r25.F, .int .u16 r25.N, eL (some 4) eapi_Pol r25.Kids]) rfl rfl (show 4 ≤ 4 by decide) rfl rfl) (RV.d trivial)
  ·
   replace h := iteF hc24 h
   refine NWp.condF (t := ((z16.length : Int) == 0)) rfl hc24 ?_
   refine NWp.opsJ ⟨tab [(2, .ptr 0 0 0), (3, .loc 1 0 z16.length), (37, vb ((z16.length : Int) == 1))], stab [(0, bv0), (1, .lst false (some 4) (List.map eapi_Pol z16))], 2⟩ ?_ ?_
   ·
    refine q1 (vb ((z16.length : Int) == 1)) ?_
    refine q1 (vb ((z16.length : Int) == 1)) ?_
    exact nR [0, 1]
   by_cases hc26 : ((z16.length : Int) == 1) = true
   ·
    replace h := iteT hc26 h
    refine NWp.condT (t := ((z16.length : Int) == 1)) rfl hc26 ?_
    obtain ⟨x27, hx27, h⟩ := bindE h
    refine NWp.opsJ ⟨tab [(2, .ptr 0 0 0)], stab [(0, bv1 x27)], 1⟩ ?_ ?_
    ·
     refine q1 (.loc 1 0 z16.length) ?_
     refine step (v := .ptr 1 (0 : Int).toNat 0) (st_iaddrL (xs := z16) (e := eapi_Pol) hx27 rfl rfl rfl rfl) ?_
     refine step (v := vs0 x27) (st_loadLU (xs := z16) (e := eapi_Pol) hx27 rfl rfl (eu_api_Pol _) rfl) ?_
     refine step (v := V.undef) (σ' := (upd (stab [(0, bv0), (1, .lst false (some 4) (List.map eapi_Pol z16))]) 0 (some (bv1 x27)))) (n' := 2) rfl ?_
     exact nR [0]
    have hh := Option.some.inj h
    subst hh
    refine NWp.ret ?_
    show FQ _ _ _ _
    exact FQ.mk1 (.inr rfl) (res_cell (ds := [.int .i64 x27.Op, .int .i64 x27.F, .int .u16 x27.N, eL (some 4) eapi_Pol x27.Kids]) rfl rfl (show 4 ≤ 4 by decide) rfl rfl) (RV.d trivial)
   ·
    replace h := iteF hc26 h
    refine NWp.condF (t := ((z16.length : Int) == 1)) rfl hc26 ?_
    refine NWp.skip ?_
    refine NWp.opsJ ⟨tab [(2, .ptr 0 0 0)], stab [(0, .var [vi 7, vi 0, vh 0, .loc 1 0 z16.length]), (1, .lst false (some 4) (List.map eapi_Pol z16))], 2⟩ ?_ ?_
    ·
     refine q1 (.loc 1 0 z16.length) ?_
     refine q1 (.agg [vi 7, vi 0, vh 0, .loc 1 0 z16.length]) ?_
     refine step (v := V.undef) (σ' := (upd (stab [(0, bv0), (1, .lst false (some 4) (List.map eapi_Pol z16))]) 0 (some (.var [vi 7, vi 0, vh 0, .loc 1 0 z16.length])))) (n' := 2) rfl ?_
     exact nR [0, 1]
    have hh := Option.some.inj h
    subst hh
    refine NWp.ret ?_
    show FQ _ _ _ _
    exact FQ.mk1 (.inr rfl) rfl (RV.agg (RV0.d (RV0.d (RV0.d (RV0.loc (xs := z16) (e := eapi_Pol) rfl rfl trivial)))) trivial)

theorem c_trim_asks {a0 : api_Pol} {r : Bool} (h : trim_asks a0 = some r) : PCall Try.prog 120 [uapi_Pol a0] (.bool r) := by
 refine PCall.introN ok120 (show 1 ≤ 11 by decide) ?_
 refine NWp.norm (s0 := ⟨tab [(0, vs0 a0)], stab [], 0⟩) (nr []) ?_
 refine NWp.opsJ ⟨tab [(1, vp0 a0)], stab [], 0⟩ ?_ ?_
 ·
  refine q1 (vp0 a0) ?_
  refine q1 (vb false) ?_
  exact nR []
 refine NWp.opsJ ⟨tab [(2, vb ((a0.Op == 2) || (a0.Op == 3)))], stab [], 0⟩ ?_ ?_
 ·
  refine q1 (vp0 a0) ?_
  refine q1 (vi a0.Op) ?_
  refine q1 (vb (a0.Op == 2)) ?_
  refine q1 (vb (a0.Op == 2)) ?_
  by_cases hg1 : (a0.Op == 2) = true
  ·
   refine qX (a0.Op == 2) (by rw [hg1]; decide) ?_
   refine qX (a0.Op == 2) (by rw [hg1]; decide) ?_
   refine qX (a0.Op == 2) (by rw [hg1]; decide) ?_
   refine step (v := vb true) (st_pickT (b := (a0.Op == 2)) rfl hg1 rfl) ?_
   refine q1 (vb true) ?_
   exact RunOps.nil' (nm [] ⟨.eq (by first | (simp [hg1]; done) | (simp_all; done) | grind), trivial⟩ trivial)
  ·
   refine qG (a0.Op == 2) (Bool.eq_false_iff.2 hg1) ?_
   refine q1 (vp0 a0) ?_
   refine qG (a0.Op == 2) (Bool.eq_false_iff.2 hg1) ?_
   refine q1 (vi a0.Op) ?_
   refine qG (a0.Op == 2) (Bool.eq_false_iff.2 hg1) ?_
   refine q1 (vb (a0.Op == 3)) ?_
   refine step (v := vb (a0.Op == 3)) (st_pickF (b := (a0.Op == 2)) rfl hg1 rfl) ?_
   refine q1 (vb (a0.Op == 3)) ?_
   exact RunOps.nil' (nm [] ⟨.eq (by first | (simp [hg1]; done) | (simp_all; done) | grind), trivial⟩ trivial)
 have hh := Option.some.inj h
 subst hh
 refine NWp.ret ?_
 show FQ _ _ _ _
 exact FQ.mk1 (.inr rfl) (res_t (v := vb ((a0.Op == 2) || (a0.Op == 3))) rfl rfl) (RV.d trivial)

theorem c_trim_equal {a0 : Bool} {a1 : Int} {r : Int} (h : trim_equal a0 a1 = some r) : PCall Try.prog 121 [.bool a0, .int .i64 a1] (.int .i64 r) := by
 refine PCall.introN ok121 (show 2 ≤ 7 by decide) ?_
 refine NWp.norm (s0 := ⟨tab [(0, vb a0), (1, vi a1)], stab [], 0⟩) (nr []) ?_
 refine NWp.opsJ ⟨tab [(0, vb a0), (1, vi a1)], stab [], 0⟩ ?_ ?_
 ·
  refine q1 (vi 0) ?_
  exact nR []
 refine NWp.seq ?_
 refine NWp.opsJ ⟨tab [(1, vi a1), (5, vb a0)], stab [], 0⟩ ?_ ?_
 ·
  refine q1 (vb a0) ?_
  exact nR []
 by_cases hc1 : a0 = true
 ·
  replace h := iteT hc1 h
  refine NWp.condT (t := a0) rfl hc1 ?_
  refine NWp.opsJ ⟨tab [(4, vi a1)], stab [], 0⟩ ?_ ?_
  ·
   refine q1 (vi a1) ?_
   refine q1 (vi a1) ?_
   exact nR []
  have hh := Option.some.inj h
  subst hh
  refine NWp.ret ?_
  show FQ _ _ _ _
  exact FQ.mk1 (.inr rfl) (res_t (v := vi a1) rfl rfl) (RV.d trivial)
 ·
  replace h := iteF hc1 h
  refine NWp.condF (t := a0) rfl hc1 ?_
  refine NWp.skip ?_
  refine NWp.opsJ ⟨tab [(4, vi 3)], stab [], 0⟩ ?_ ?_
  ·
   refine q1 (vi 3) ?_
   exact nR []
  have hh := Option.some.inj h
  subst hh
  refine NWp.ret ?_
  show FQ _ _ _ _
  exact FQ.mk1 (.inr rfl) (res_t (v := vi 3) rfl rfl) (RV.d trivial)

theorem c_trim_neighbours {a0 : api_Pol} {a1 : api_Pol} {a2 : Bool} {r : Int} (h : trim_neighbours a0 a1 a2 = some r) : PCall Try.prog 118 [uapi_Pol a0, uapi_Pol a1, .bool a2] (.int .i64 r) := by
 refine PCall.introN ok118 (show 3 ≤ 74 by decide) ?_
 refine NWp.norm (s0 := ⟨tab [(0, vs0 a0), (1, vs0 a1), (2, vb a2)], stab [], 0⟩) (nr []) ?_
 refine NWp.opsJ ⟨tab [(2, vb a2), (3, vp0 a0), (4, vp0 a1)], stab [], 0⟩ ?_ ?_
 ·
  refine q1 (vp0 a0) ?_
  refine q1 (vp0 a1) ?_
  refine q1 (vi 0) ?_
  exact nR []
 obtain ⟨r1, hr1, h⟩ := bindE h
 refine NWp.opsJ ⟨tab [(2, vb a2), (3, vp0 a0), (4, vp0 a1), (7, vb (r1 && (a0.Op == a1.Op)))], stab [], 0⟩ ?_ ?_
 ·
  refine q1 (vs0 a0) ?_
  refine stepC (r := .bool r1) (ArgsOk.dt ArgsOk.nil') (c_trim_asks hr1) ?_
  refine q1 (vb r1) ?_
  by_cases hg2 : r1 = true
  ·
   refine qG r1 hg2 ?_
   refine q1 (vp0 a0) ?_
   refine qG r1 hg2 ?_
   refine q1 (vi a0.Op) ?_
   refine qG r1 hg2 ?_
   refine q1 (vp0 a1) ?_
   refine qG r1 hg2 ?_
   refine q1 (vi a1.Op) ?_
   refine qG r1 hg2 ?_
   refine q1 (vb (a0.Op == a1.Op)) ?_
   refine step (v := vb (a0.Op == a1.Op)) (st_pickT (b := r1) rfl hg2 rfl) ?_
   refine q1 (vb (a0.Op == a1.Op)) ?_
   exact RunOps.nil' (nm [] ⟨.d _, .d _, .d _, .eq (by first | (simp [hg2]; done) | (simp_all; done) | grind), trivial⟩ trivial)
  ·
   refine qX r1 hg2 ?_
   refine qX r1 hg2 ?_
   refine qX r1 hg2 ?_
   refine qX r1 hg2 ?_
   refine qX r1 hg2 ?_
   refine step (v := vb false) (st_pickF (b := r1) rfl hg2 rfl) ?_
   refine q1 (vb false) ?_
   exact RunOps.nil' (nm [] ⟨.d _, .d _, .d _, .eq (by first | (simp [hg2]; done) | (simp_all; done) | grind), trivial⟩ trivial)
 refine NWp.seq ?_
 refine NWp.block ?_
 obtain ⟨y4, hv, h⟩ := bindE h
 refine NWp.seqN ⟨tab [(3, vp0 a0), (4, vp0 a1), (7, vb (r1 && (a0.Op == a1.Op))), (17, vb y4)], stab [], 0⟩ ?_ ?_
 ·
  replace h := hv
  refine NWp.opsJ ⟨tab [(3, vp0 a0), (4, vp0 a1), (7, vb (r1 && (a0.Op == a1.Op))), (17, vb (!((r1 && (a0.Op == a1.Op)) == a2)))], stab [], 0⟩ ?_ ?_
  ·
   refine q1 (vb (r1 && (a0.Op == a1.Op))) ?_
   refine q1 (vb a2) ?_
   refine q1 (vb (!((r1 && (a0.Op == a1.Op)) == a2))) ?_
   refine q1 (vb (!((r1 && (a0.Op == a1.Op)) == a2))) ?_
   exact nR []
  by_cases hc3 : (!((r1 && (a0.Op == a1.Op)) == a2)) = true
  ·
   replace h := iteT hc3 h
   refine NWp.condT (t := (!((r1 && (a0.Op == a1.Op)) == a2))) rfl hc3 ?_
   have hh := Option.some.inj h
   subst hh
   refine NWp.norm (s0 := ⟨tab [(3, vp0 a0), (4, vp0 a1), (7, vb (r1 && (a0.Op == a1.Op))), (17, vb (!((r1 && (a0.Op == a1.Op)) == a2)))], stab [], 0⟩) (nr []) ?_
   refine NWp.skip ?_
   exact And.intro rfl rfl
  ·
   replace h := iteF hc3 h
   refine NWp.condF (t := (!((r1 && (a0.Op == a1.Op)) == a2))) rfl hc3 ?_
   have hh := Option.some.inj h
   subst hh
   refine NWp.opsE ⟨tab [(3, vp0 a0), (4, vp0 a1), (7, vb (r1 && (a0.Op == a1.Op))), (17, vb (a0.F != a1.F))], stab [], 0⟩ ?_ ?_
   ·
    refine q1 (.d (.cptr (some 4) (uapi_Pol a0) 1)) ?_
    refine q1 (vi a0.F) ?_
    refine q1 (.d (.cptr (some 4) (uapi_Pol a1) 1)) ?_
    refine q1 (vi a1.F) ?_
    refine q1 (vb (a0.F != a1.F)) ?_
    refine q1 (vb (a0.F != a1.F)) ?_
    exact nR []
   exact And.intro rfl rfl
 by_cases hc6 : y4 = true
 ·
  replace h := iteT hc6 h
  refine NWp.condT (t := y4) rfl hc6 ?_
  refine NWp.opsJ ⟨tab [(6, vi 0)], stab [], 0⟩ ?_ ?_
  ·
   refine q1 (vi 0) ?_
   exact nR []
  have hh := Option.some.inj h
  subst hh
  refine NWp.ret ?_
  show FQ _ _ _ _
  exact FQ.mk1 (.inr rfl) (res_t (v := vi 0) rfl rfl) (RV.d trivial)
 ·
  replace h := iteF hc6 h
  refine NWp.condF (t := y4) rfl hc6 ?_
  refine NWp.opsJ ⟨tab [(3, vp0 a0), (4, vp0 a1), (26, vb (r1 && (a0.Op == a1.Op)))], stab [], 0⟩ ?_ ?_
  ·
   refine q1 (vb (r1 && (a0.Op == a1.Op))) ?_
   refine q1 (vb (r1 && (a0.Op == a1.Op))) ?_
   exact nR []
  by_cases hc7 : (r1 && (a0.Op == a1.Op)) = true
  ·
   replace h := iteT hc7 h
   refine NWp.condT (t := (r1 && (a0.Op == a1.Op))) rfl hc7 ?_
   obtain ⟨r8, hr8, h⟩ := bindE h
   refine NWp.opsJ ⟨tab [(6, vi r8)], stab [], 0⟩ ?_ ?_
   ·
    refine q1 (.d (.cptr (some 4) (uapi_Pol a0) 2)) ?_
    refine q1 (vh a0.N) ?_
    refine q1 (.d (.cptr (some 4) (uapi_Pol a1) 2)) ?_
    refine q1 (vh a1.N) ?_
    refine q1 (vb (a0.N == a1.N)) ?_
    refine stepC (r := .int .i64 r8) (ArgsOk.dt (ArgsOk.dt ArgsOk.nil')) (c_trim_equal hr8) ?_
    refine q1 (vi r8) ?_
    exact nR []
   have hh := Option.some.inj h
   subst hh
   refine NWp.ret ?_
   show FQ _ _ _ _
   exact FQ.mk1 (.inr rfl) (res_t (v := vi r8) rfl rfl) (RV.d trivial)
  ·
   replace h := iteF hc7 h
   refine NWp.condF (t := (r1 && (a0.Op == a1.Op))) rfl hc7 ?_
   refine NWp.opsJ ⟨tab [(3, vp0 a0), (4, vp0 a1), (34, vb ((a0.Op == 5) && (a1.Op == 5)))], stab [], 0⟩ ?_ ?_
   ·
    refine q1 (vp0 a0) ?_
    refine q1 (vi a0.Op) ?_
    refine q1 (vb (a0.Op == 5)) ?_
    refine q1 (vb (a0.Op == 5)) ?_
    by_cases hg9 : (a0.Op == 5) = true
    ·
     refine qG (a0.Op == 5) hg9 ?_
     refine q1 (vp0 a1) ?_
     refine qG (a0.Op == 5) hg9 ?_
     refine q1 (vi a1.Op) ?_
     refine qG (a0.Op == 5) hg9 ?_
     refine q1 (vb (a1.Op == 5)) ?_
     refine step (v := vb (a1.Op == 5)) (st_pickT (b := (a0.Op == 5)) rfl hg9 rfl) ?_
     refine q1 (vb (a1.Op == 5)) ?_
     exact RunOps.nil' (nm [] ⟨.d _, .d _, .eq (by first | (simp [hg9]; done) | (simp_all; done) | grind), trivial⟩ trivial)
    ·
     refine qX (a0.Op == 5) hg9 ?_
     refine qX (a0.Op == 5) hg9 ?_
     refine qX (a0.Op == 5) hg9 ?_
     refine step (v := vb false) (st_pickF (b := (a0.Op == 5)) rfl hg9 rfl) ?_
     refine q1 (vb false) ?_
     exact RunOps.nil' (nm [] ⟨.d _, .d _, .eq (by first | (simp [hg9]; done) | (simp_all; done) | grind), trivial⟩ trivial)
   by_cases hc10 : ((a0.Op == 5) && (a1.Op == 5)) = true
   ·
    replace h := iteT hc10 h
    refine NWp.condT (t := ((a0.Op == 5) && (a1.Op == 5))) rfl hc10 ?_
    refine NWp.opsJ ⟨tab [(6, vi 1)], stab [], 0⟩ ?_ ?_
    ·
     refine q1 (vi 1) ?_
     exact nR []
    have hh := Option.some.inj h
    subst hh
    refine NWp.ret ?_
    show FQ _ _ _ _
    exact FQ.mk1 (.inr rfl) (res_t (v := vi 1) rfl rfl) (RV.d trivial)
   ·
    replace h := iteF hc10 h
    refine NWp.condF (t := ((a0.Op == 5) && (a1.Op == 5))) rfl hc10 ?_
    refine NWp.opsJ ⟨tab [(3, vp0 a0), (4, vp0 a1), (43, vb ((a0.Op == 5) && (a1.Op == 2)))], stab [], 0⟩ ?_ ?_
    ·
     refine q1 (vp0 a0) ?_
     refine q1 (vi a0.Op) ?_
     refine q1 (vb (a0.Op == 5)) ?_
     refine q1 (vb (a0.Op == 5)) ?_
     by_cases hg11 : (a0.Op == 5) = true
     ·
      refine qG (a0.Op == 5) hg11 ?_
      refine q1 (vp0 a1) ?_
      refine qG (a0.Op == 5) hg11 ?_
      refine q1 (vi a1.Op) ?_
      refine qG (a0.Op == 5) hg11 ?_
      refine q1 (vb (a1.Op == 2)) ?_
      refine step (v := vb (a1.Op == 2)) (st_pickT (b := (a0.Op == 5)) rfl hg11 rfl) ?_
      refine q1 (vb (a1.Op == 2)) ?_
      exact RunOps.nil' (nm [] ⟨.d _, .d _, .eq (by first | (simp [hg11]; done) | (simp_all; done) | grind), trivial⟩ trivial)
     ·
      refine qX (a0.Op == 5) hg11 ?_
      refine qX (a0.Op == 5) hg11 ?_
      refine qX (a0.Op == 5) hg11 ?_
      refine step (v := vb false) (st_pickF (b := (a0.Op == 5)) rfl hg11 rfl) ?_
      refine q1 (vb false) ?_
      exact RunOps.nil' (nm [] ⟨.d _, .d _, .eq (by first | (simp [hg11]; done) | (simp_all; done) | grind), trivial⟩ trivial)
    by_cases hc12 : ((a0.Op == 5) && (a1.Op == 2)) = true
    ·
     replace h := iteT hc12 h
     refine NWp.condT (t := ((a0.Op == 5) && (a1.Op == 2))) rfl hc12 ?_
     obtain ⟨r13, hr13, h⟩ := bindE h
     refine NWp.opsJ ⟨tab [(6, vi r13)], stab [], 0⟩ ?_ ?_
     ·
      refine q1 (.d (.cptr (some 4) (uapi_Pol a0) 2)) ?_
      refine q1 (vh a0.N) ?_
      refine q1 (.d (.cptr (some 4) (uapi_Pol a1) 2)) ?_
      refine q1 (vh a1.N) ?_
      refine q1 (vb (a0.N == a1.N)) ?_
      refine stepC (r := .int .i64 r13) (ArgsOk.dt (ArgsOk.dt ArgsOk.nil')) (c_trim_equal hr13) ?_
      refine q1 (vi r13) ?_
      exact nR []
     have hh := Option.some.inj h
     subst hh
     refine NWp.ret ?_
     show FQ _ _ _ _
     exact FQ.mk1 (.inr rfl) (res_t (v := vi r13) rfl rfl) (RV.d trivial)
    ·
     replace h := iteF hc12 h
     refine NWp.condF (t := ((a0.Op == 5) && (a1.Op == 2))) rfl hc12 ?_
     refine NWp.opsJ ⟨tab [(58, vb ((a0.Op == 2) && ((a1.Op == 5) && (a0.N == a1.N))))], stab [], 0⟩ ?_ ?_
     ·
      refine q1 (vp0 a0) ?_
      refine q1 (vi a0.Op) ?_
      refine q1 (vb (a0.Op == 2)) ?_
      refine q1 (vb (a0.Op == 2)) ?_
      by_cases hg14 : (a0.Op == 2) = true
      ·
       refine qG (a0.Op == 2) hg14 ?_
       refine q1 (vp0 a1) ?_
       refine qG (a0.Op == 2) hg14 ?_
       refine q1 (vi a1.Op) ?_
       refine qG (a0.Op == 2) hg14 ?_
       refine q1 (vb (a1.Op == 5)) ?_
       refine step (v := vb (a1.Op == 5)) (st_pickT (b := (a0.Op == 2)) rfl hg14 rfl) ?_
       refine q1 (vb (a1.Op == 5)) ?_
       by_cases hg15 : (a1.Op == 5) = true
       ·
        refine qG (a1.Op == 5) hg15 ?_
        refine q1 (.d (.cptr (some 4) (uapi_Pol a0) 2)) ?_
        refine qG (a1.Op == 5) hg15 ?_
        refine q1 (vh a0.N) ?_
        refine qG (a1.Op == 5) hg15 ?_
        refine q1 (.d (.cptr (some 4) (uapi_Pol a1) 2)) ?_
        refine qG (a1.Op == 5) hg15 ?_
        refine q1 (vh a1.N) ?_
        refine qG (a1.Op == 5) hg15 ?_
        refine q1 (vb (a0.N == a1.N)) ?_
        refine step (v := vb (a0.N == a1.N)) (st_pickT (b := (a1.Op == 5)) rfl hg15 rfl) ?_
        refine q1 (vb (a0.N == a1.N)) ?_
        exact RunOps.nil' (nm [] ⟨.eq (by first | (simp [hg14, hg15]; done) | (simp_all; done) | grind), trivial⟩ trivial)
       ·
        refine qX (a1.Op == 5) hg15 ?_
        refine qX (a1.Op == 5) hg15 ?_
        refine qX (a1.Op == 5) hg15 ?_
        refine qX (a1.Op == 5) hg15 ?_
        refine qX (a1.Op == 5) hg15 ?_
        refine step (v := vb false) (st_pickF (b := (a1.Op == 5)) rfl hg15 rfl) ?_
        refine q1 (vb false) ?_
        exact RunOps.nil' (nm [] ⟨.eq (by first | (simp [hg14, hg15]; done) | (simp_all; done) | grind), trivial⟩ trivial)
      ·
       refine qX (a0.Op == 2) hg14 ?_
       refine qX (a0.Op == 2) hg14 ?_
       refine qX (a0.Op == 2) hg14 ?_
       refine step (v := vb false) (st_pickF (b := (a0.Op == 2)) rfl hg14 rfl) ?_
       refine q1 (vb false) ?_
       refine qX false (by decide) ?_
       refine qX false (by decide) ?_
       refine qX false (by decide) ?_
       refine qX false (by decide) ?_
       refine qX false (by decide) ?_
       refine step (v := vb false) (st_pickF (b := false) rfl (by decide) rfl) ?_
       refine q1 (vb false) ?_
       exact RunOps.nil' (nm [] ⟨.eq (by first | (simp [hg14]; done) | (simp_all; done) | grind), trivial⟩ trivial)
     by_cases hc16 : ((a0.Op == 2) && ((a1.Op == 5) && (a0.N == a1.N))) = true
     ·
      replace h := iteT hc16 h
      refine NWp.condT (t := ((a0.Op == 2) && ((a1.Op == 5) && (a0.N == a1.N)))) rfl hc16 ?_
      refine NWp.opsJ ⟨tab [(6, vi 2)], stab [], 0⟩ ?_ ?_
      ·
       refine q1 (vi 2) ?_
       exact nR []
      have hh := Option.some.inj h
      subst hh
      refine NWp.ret ?_
      show FQ _ _ _ _
      exact FQ.mk1 (.inr rfl) (res_t (v := vi 2) rfl rfl) (RV.d trivial)
     ·
      replace h := iteF hc16 h
      refine NWp.condF (t := ((a0.Op == 2) && ((a1.Op == 5) && (a0.N == a1.N)))) rfl hc16 ?_
      refine NWp.skip ?_
      refine NWp.opsJ ⟨tab [(6, vi 0)], stab [], 0⟩ ?_ ?_
      ·
       refine q1 (vi 0) ?_
       exact nR []
      have hh := Option.some.inj h
      subst hh
      refine NWp.ret ?_
      show FQ _ _ _ _
      exact FQ.mk1 (.inr rfl) (res_t (v := vi 0) rfl rfl) (RV.d trivial)

set_option maxRecDepth 100000 in
theorem lay119 : SlLaysE0.n45 Try.prog ⟨fun _ => 119, fun t => if t = 22 then 46 else if t = 23 then 48 else if t = 0 then 0 else if t = 3 then 3 else if t = 4 then 4 else t, fun x => x⟩ where
 mixed := by kernel_rfl
 f45 := ⟨Try.f119.name, by kernel_rfl, by kernel_rfl⟩
 t0 := Try.underlying0
 a0 := Try.isAgg0
 z0 := Try.sizeOf0
 v0 := Try.zeroValue0
 t3 := Try.underlying3
 a3 := Try.isAgg3
 z3 := Try.sizeOf3
 v3 := Try.zeroValue3
 t4 := Try.underlying4
 a4 := Try.isAgg4
 z4 := Try.sizeOf4
 v4 := Try.zeroValue4
 t22 := Try.underlying46
 a22 := Try.isAgg46
 z22 := Try.sizeOf46
 v22 := Try.zeroValue46

theorem c_slices_Delete_api_Pol {a0 : List api_Pol} {a1 a2 : Int} {r : List api_Pol} (h : slices_Delete_api_Pol a0 a1 a2 = some r) : SCall Try.prog 119 [.loc 0 0 a0.length, vi a1, vi a2] (stab [(0, .lst true (some 4) (List.map eapi_Pol a0))]) 1 (.loc 0 0 r.length) (stab [(0, .lst true (some 4) (List.map eapi_Pol r))]) 1 := by
 unfold slices_Delete_api_Pol at h
 split at h
 ·
  rename_i hc
  cases h
  have := SCall.delete lay119 (some 4) (by decide) (by kernel_rfl) Try.sizeOf48 _ Try.zeroValue48 rfl (by decide) (by kernel_rfl) (els := List.map eapi_Pol a0) (i := a1.toNat) (j := a2.toNat) (by omega) (by rw [List.length_map]; omega)
  rw [show ((a1.toNat : Nat) : Int) = a1 by omega, show ((a2.toNat : Nat) : Int) = a2 by omega, ← List.map_take, ← List.map_drop, ← List.map_append, List.length_map, List.length_map] at this
  exact this
 ·
  cases h

theorem c_trim_closer {a0 : (List api_Pol)} {a1 : Bool} {r : ((List api_Pol) × Bool × Bool)} (h : trim_closer a0 a1 = some r) : SCall Try.prog 108 [.loc 0 0 a0.length, vb a1] (stab [(0, .lst true (some 4) (List.map eapi_Pol a0))]) 1 (.tup [.loc 0 0 r.1.length, vb r.2.1, vb r.2.2]) (stab [(0, .lst true (some 4) (List.map eapi_Pol r.1))]) 1 := by
 refine SCall.introN (bl := [(0, .lst true (some 4) (List.map eapi_Pol a0))]) (bl' := [(0, .lst true (some 4) (List.map eapi_Pol r.1))]) ok108 (show 2 ≤ 44 by decide) rfl ?_
 refine NWp.norm (s0 := ⟨tab [(0, .loc 0 0 a0.length), (1, vb a1)], stab [(0, .lst true (some 4) (List.map eapi_Pol a0))], 1⟩) (nr [0]) ?_
 refine NWp.opsJ ⟨tab [(0, .loc 0 0 a0.length), (1, vb a1)], stab [(0, .lst true (some 4) (List.map eapi_Pol a0))], 1⟩ ?_ ?_
 ·
  refine q1 (.d (.nils)) ?_
  refine q1 (vb false) ?_
  refine q1 (vb false) ?_
  exact nR [0]
 refine NWp.seq ?_
 refine NWp.opsJ ⟨tab [(0, .loc 0 0 a0.length), (1, vb a1), (10, vi (IntKind.i64.wrap ((a0.length : Int) - 1))), (11, vi 0)], stab [(0, .lst true (some 4) (List.map eapi_Pol a0))], 1⟩ ?_ ?_
 ·
  refine q1 (.loc 0 0 a0.length) ?_
  refine q1 (vi (a0.length : Int)) ?_
  refine q1 (vi (IntKind.i64.wrap ((a0.length : Int) - 1))) ?_
  refine q1 (vi 0) ?_
  exact nR [0]
 obtain ⟨q15, hl, h⟩ := bindE h
 refine NWp.block ?_
 refine loop_forR (cntU (IntKind.i64.wrap ((a0.length : Int) - 1))) (fun (i1 : Int) (qq : Unit) => ⟨tab [(0, .loc 0 0 a0.length), (1, vb a1), (10, vi (IntKind.i64.wrap ((a0.length : Int) - 1))), (11, vi i1)], stab [(0, .lst true (some 4) (List.map eapi_Pol a0))], 1⟩) 0 (fun (qq : Unit) => ⟨tab [(0, .loc 0 0 a0.length)], stab [(0, .lst true (some 4) (List.map eapi_Pol a0))], 1⟩) Low low_step (r := r) hl (by unfold Low; omega) ?_ ?_ ?_ ?_
 ·
  rintro i1 ⟨⟩ xr6 hinv4 hgo3 h
  show NWp _ _ _ _ _ ⟨tab [(0, .loc 0 0 a0.length), (1, vb a1), (10, vi (IntKind.i64.wrap ((a0.length : Int) - 1))), (11, vi i1)], stab [(0, .lst true (some 4) (List.map eapi_Pol a0))], 1⟩
  have hc5 : decide (i1 < (IntKind.i64.wrap ((a0.length : Int) - 1))) = true := decide_eq_true hgo3
  refine NWp.opsJ ⟨tab [(0, .loc 0 0 a0.length), (1, vb a1), (10, vi (IntKind.i64.wrap ((a0.length : Int) - 1))), (11, vi i1), (12, vb (decide (i1 < (IntKind.i64.wrap ((a0.length : Int) - 1)))))], stab [(0, .lst true (some 4) (List.map eapi_Pol a0))], 1⟩ ?_ ?_
  ·
   refine q1 (vb (decide (i1 < (IntKind.i64.wrap ((a0.length : Int) - 1))))) ?_
   exact nR [0]
  refine NWp.rng 10 rfl fun hB2 => ?_
  refine NWp.seq ?_
  refine NWp.condT (t := decide (i1 < (IntKind.i64.wrap ((a0.length : Int) - 1)))) rfl hc5 ?_
  refine NWp.skip ?_
  refine NWp.seq ?_
  refine NWp.block ?_
  refine NWp.opsJ ⟨tab [(0, .loc 0 0 a0.length), (1, vb a1), (7, vi i1), (10, vi (IntKind.i64.wrap ((a0.length : Int) - 1))), (11, vi i1)], stab [(0, .lst true (some 4) (List.map eapi_Pol a0))], 1⟩ ?_ ?_
  ·
   refine q1 (vi i1) ?_
   refine q1 (vi i1) ?_
   exact nR [0]
  obtain ⟨x7, hx7, h⟩ := bindE h
  obtain ⟨x8, hx8, h⟩ := bindE h
  obtain ⟨r9, hr9, h⟩ := bindE h
  refine NWp.opsJ ⟨tab [(0, .loc 0 0 a0.length), (1, vb a1), (7, vi i1), (10, vi (IntKind.i64.wrap ((a0.length : Int) - 1))), (11, vi i1), (24, vi r9)], stab [(0, .lst true (some 4) (List.map eapi_Pol a0))], 1⟩ ?_ ?_
  ·
   refine q1 (.loc 0 0 a0.length) ?_
   refine q1 (vi i1) ?_
   refine step (v := .ptr 0 i1.toNat 0) (st_iaddrL (xs := a0) (e := eapi_Pol) hx7 rfl rfl rfl rfl) ?_
   refine step (v := vs0 x7) (st_loadLU (xs := a0) (e := eapi_Pol) hx7 rfl rfl (eu_api_Pol _) rfl) ?_
   refine q1 (.loc 0 0 a0.length) ?_
   refine q1 (vi i1) ?_
   refine step (v := vi (i1 + 1)) (st_inc (inc_ok hinv4 hgo3 hB2) rfl rfl) ?_
   refine step (v := .ptr 0 (i1 + 1).toNat 0) (st_iaddrL (xs := a0) (e := eapi_Pol) hx8 rfl rfl rfl rfl) ?_
   refine step (v := vs0 x8) (st_loadLU (xs := a0) (e := eapi_Pol) hx8 rfl rfl (eu_api_Pol _) rfl) ?_
   refine q1 (vb a1) ?_
   refine stepC (r := .int .i64 r9) (ArgsOk.dt (ArgsOk.dt (ArgsOk.dt ArgsOk.nil'))) (c_trim_neighbours hr9) ?_
   exact nR [0]
  refine NWp.block ?_
  refine NWp.opsJ ⟨tab [(0, .loc 0 0 a0.length), (1, vb a1), (7, vi i1), (10, vi (IntKind.i64.wrap ((a0.length : Int) - 1))), (11, vi i1), (24, vi r9), (25, vb (r9 == 1))], stab [(0, .lst true (some 4) (List.map eapi_Pol a0))], 1⟩ ?_ ?_
  ·
   refine q1 (vb (r9 == 1)) ?_
   refine q1 (vb (r9 == 1)) ?_
   exact nR [0]
  by_cases hc10 : (r9 == 1) = true
  ·
   replace h := iteT hc10 h
   refine NWp.condT (t := (r9 == 1)) rfl hc10 ?_
   obtain ⟨r11, hr11, h⟩ := bindE h
   refine NWp.opsJ ⟨tab [(4, .loc 0 0 r11.length), (5, vb false), (6, vb true)], stab [(0, .lst true (some 4) (List.map eapi_Pol r11))], 1⟩ ?_ ?_
   ·
    refine q1 (.loc 0 0 a0.length) ?_
    refine q1 (vi i1) ?_
    refine q1 (vi i1) ?_
    refine step (v := vi (i1 + 1)) (st_inc (inc_ok hinv4 hgo3 hB2) rfl rfl) ?_
    refine stepW (v := .loc 0 0 r11.length) (σ' := (upd (upd (stab [(0, .lst true (some 4) (List.map eapi_Pol a0))]) 0 none) 0 (some (.lst true (some 4) (List.map eapi_Pol r11))))) (n' := 1) (SCall.lift [0] (c_slices_Delete_api_Pol hr11) (show 1 ≤ 1 by decide) (by decide) (show ∀ i ∈ [0], i < 1 by decide) (dom_c (show 0 < 1 by decide) dom_n) (VNs.c (.lc 0) (VNs.c (.d _) (VNs.c (.d _) VNs.nil0))) (SN.c (show 0 < 1 by decide) rfl (.lst _ _ _) SN.nil0)) (show 1 ≤ 1 by decide) ?_
    refine q1 (.loc 0 0 r11.length) ?_
    refine q1 (vb false) ?_
    refine q1 (vb true) ?_
    exact nR [0]
   obtain ⟨r12, kr12, hr⟩ := mapE (o := some (r11, false, true)) (g := Br.ret) h
   subst hr
   have h := kr12
   have hh := Option.some.inj h
   subst hh
   refine NWp.ret ?_
   refine And.intro (fun hn => nomatch hn) ?_
   intro hq
   have hq := hq.symm
   subst hq
   exact ⟨.inr rfl, _, rfl, rfl, AllS.sub ⟨rfl, trivial⟩, rfl⟩
  ·
   replace h := iteF hc10 h
   refine NWp.condF (t := (r9 == 1)) rfl hc10 ?_
   refine NWp.opsJ ⟨tab [(0, .loc 0 0 a0.length), (1, vb a1), (7, vi i1), (10, vi (IntKind.i64.wrap ((a0.length : Int) - 1))), (11, vi i1), (24, vi r9), (32, vb (r9 == 2))], stab [(0, .lst true (some 4) (List.map eapi_Pol a0))], 1⟩ ?_ ?_
   ·
    refine q1 (vb (r9 == 2)) ?_
    refine q1 (vb (r9 == 2)) ?_
    exact nR [0]
   by_cases hc12 : (r9 == 2) = true
   ·
    replace h := iteT hc12 h
    refine NWp.condT (t := (r9 == 2)) rfl hc12 ?_
    obtain ⟨r13, hr13, h⟩ := bindE h
    refine NWp.opsJ ⟨tab [(4, .loc 0 0 r13.length), (5, vb false), (6, vb true)], stab [(0, .lst true (some 4) (List.map eapi_Pol r13))], 1⟩ ?_ ?_
    ·
     refine q1 (.loc 0 0 a0.length) ?_
     refine q1 (vi i1) ?_
     refine step (v := vi (i1 + 1)) (st_inc (inc_ok hinv4 hgo3 hB2) rfl rfl) ?_
     refine q1 (vi i1) ?_
     refine q1 (vi (IntKind.i64.wrap (i1 + 2))) ?_
     refine stepW (v := .loc 0 0 r13.length) (σ' := (upd (upd (stab [(0, .lst true (some 4) (List.map eapi_Pol a0))]) 0 none) 0 (some (.lst true (some 4) (List.map eapi_Pol r13))))) (n' := 1) (SCall.lift [0] (c_slices_Delete_api_Pol hr13) (show 1 ≤ 1 by decide) (by decide) (show ∀ i ∈ [0], i < 1 by decide) (dom_c (show 0 < 1 by decide) dom_n) (VNs.c (.lc 0) (VNs.c (.d _) (VNs.c (.d _) VNs.nil0))) (SN.c (show 0 < 1 by decide) rfl (.lst _ _ _) SN.nil0)) (show 1 ≤ 1 by decide) ?_
     refine q1 (.loc 0 0 r13.length) ?_
     refine q1 (vb false) ?_
     refine q1 (vb true) ?_
     exact nR [0]
    obtain ⟨r14, kr14, hr⟩ := mapE (o := some (r13, false, true)) (g := Br.ret) h
    subst hr
    have h := kr14
    have hh := Option.some.inj h
    subst hh
    refine NWp.ret ?_
    refine And.intro (fun hn => nomatch hn) ?_
    intro hq
    have hq := hq.symm
    subst hq
    exact ⟨.inr rfl, _, rfl, rfl, AllS.sub ⟨rfl, trivial⟩, rfl⟩
   ·
    replace h := iteF hc12 h
    refine NWp.condF (t := (r9 == 2)) rfl hc12 ?_
    refine NWp.opsJ ⟨tab [(0, .loc 0 0 a0.length), (1, vb a1), (10, vi (IntKind.i64.wrap ((a0.length : Int) - 1))), (11, vi i1), (40, vb (r9 == 3))], stab [(0, .lst true (some 4) (List.map eapi_Pol a0))], 1⟩ ?_ ?_
    ·
     refine q1 (vb (r9 == 3)) ?_
     refine q1 (vb (r9 == 3)) ?_
     exact nR [0]
    by_cases hc14 : (r9 == 3) = true
    ·
     replace h := iteT hc14 h
     refine NWp.condT (t := (r9 == 3)) rfl hc14 ?_
     refine NWp.opsJ ⟨tab [(4, .d (.nils)), (5, vb true), (6, vb true)], stab [(0, .lst true (some 4) (List.map eapi_Pol a0))], 1⟩ ?_ ?_
     ·
      refine q1 (.d (.nils)) ?_
      refine q1 (vb true) ?_
      refine q1 (vb true) ?_
      exact nR [0]
     obtain ⟨r15, kr15, hr⟩ := mapE (o := some (([] : List api_Pol), true, true)) (g := Br.ret) h
     subst hr
     have h := kr15
     have hh := Option.some.inj h
     subst hh
     refine NWp.norm (s0 := ⟨tab [(4, .loc 0 0 (([] : List api_Pol).length)), (5, vb true), (6, vb true)], stab [(0, .lst true (some 4) (List.map eapi_Pol ([] : List api_Pol)))], 1⟩) (Norm.trans (s2 := ⟨tab [(4, .loc 0 0 (([] : List api_Pol).length)), (5, vb true), (6, vb true)], stab [(0, .lst true (some 4) (List.map eapi_Pol ([] : List api_Pol)))], 1⟩) (Norm.nilcut 4 0 rfl rfl) (nr [0])) ?_
     refine NWp.ret ?_
     refine And.intro (fun hn => nomatch hn) ?_
     intro hq
     have hq := hq.symm
     subst hq
     exact ⟨.inr rfl, _, rfl, rfl, AllS.sub ⟨rfl, trivial⟩, rfl⟩
    ·
     replace h := iteF hc14 h
     refine NWp.condF (t := (r9 == 3)) rfl hc14 ?_
     refine NWp.skip ?_
     have hh := Option.some.inj h
     subst hh
     refine NWp.opsE ⟨tab [(0, .loc 0 0 a0.length), (1, vb a1), (10, vi (IntKind.i64.wrap ((a0.length : Int) - 1))), (11, vi (i1 + 1))], stab [(0, .lst true (some 4) (List.map eapi_Pol a0))], 1⟩ ?_ ?_
     ·
      refine step (v := vi (i1 + 1)) (st_inc (inc_ok hinv4 hgo3 hB2) rfl rfl) ?_
      refine q1 (vi (i1 + 1)) ?_
      exact nR [0]
     exact And.intro rfl rfl
 ·
  rintro i1 ⟨⟩ hinv4 hgo3
  show NWp _ _ _ _ _ ⟨tab [(0, .loc 0 0 a0.length), (1, vb a1), (10, vi (IntKind.i64.wrap ((a0.length : Int) - 1))), (11, vi i1)], stab [(0, .lst true (some 4) (List.map eapi_Pol a0))], 1⟩
  have hc5 : ¬ (decide (i1 < (IntKind.i64.wrap ((a0.length : Int) - 1))) = true) := fun hq => hgo3 (of_decide_eq_true hq)
  refine NWp.opsJ ⟨tab [(0, .loc 0 0 a0.length), (1, vb a1), (10, vi (IntKind.i64.wrap ((a0.length : Int) - 1))), (11, vi i1), (12, vb (decide (i1 < (IntKind.i64.wrap ((a0.length : Int) - 1)))))], stab [(0, .lst true (some 4) (List.map eapi_Pol a0))], 1⟩ ?_ ?_
  ·
   refine q1 (vb (decide (i1 < (IntKind.i64.wrap ((a0.length : Int) - 1))))) ?_
   exact nR [0]
  refine NWp.seq ?_
  refine NWp.condF (t := decide (i1 < (IntKind.i64.wrap ((a0.length : Int) - 1)))) rfl hc5 ?_
  refine NWp.norm (s0 := ⟨tab [(0, .loc 0 0 a0.length)], stab [(0, .lst true (some 4) (List.map eapi_Pol a0))], 1⟩) (nr [0]) ?_
  refine NWp.exit ?_
  exact And.intro rfl rfl
 ·
  intro r' hq
  subst hq
  exact Option.some.inj h
 rintro ⟨⟩ rfl
 refine NWp.opsJ ⟨tab [(4, .loc 0 0 a0.length), (5, vb false), (6, vb false)], stab [(0, .lst true (some 4) (List.map eapi_Pol a0))], 1⟩ ?_ ?_
 ·
  refine q1 (.loc 0 0 a0.length) ?_
  refine q1 (.loc 0 0 a0.length) ?_
  refine q1 (vb false) ?_
  refine q1 (vb false) ?_
  exact nR [0]
 have hh := Option.some.inj h
 subst hh
 refine NWp.ret ?_
 exact ⟨.inr rfl, _, rfl, rfl, AllS.sub ⟨rfl, trivial⟩, rfl⟩

theorem c_trim_seq {a0 : (List api_Pol)} {r : api_Pol} (h : trim_seq a0 = some r) : PCall Try.prog 93 [eL (some 4) eapi_Pol a0] (uapi_Pol r) := by
 refine PCall.introN ok93 (show 1 ≤ 40 by decide) ?_
 refine NWp.norm (s0 := ⟨tab [(0, vl0 a0)], stab [], 0⟩) (nr []) ?_
 refine NWp.opsJ ⟨tab [(0, vl0 a0), (2, .ptr 0 0 0)], stab [(0, bv0)], 1⟩ ?_ ?_
 ·
  refine step (v := .ptr 0 0 0) (σ' := (upd (stab []) 0 (some (bv0)))) (n' := 1) rfl ?_
  exact nR [0]
 obtain ⟨r1, hr1, h⟩ := bindE h
 obtain ⟨r2, hr2, h⟩ := bindE h
 refine NWp.opsJ ⟨tab [(0, .loc 0 0 r2.length), (2, .ptr 1 0 0)], stab [(0, .lst true (some 4) (List.map eapi_Pol r2)), (1, bv0)], 2⟩ ?_ ?_
 ·
  refine q1 (vl0 a0) ?_
  refine stepW (v := .loc 1 0 r1.length) (σ' := (upd (stab [(0, bv0)]) 1 (some (.lst true (some 4) (List.map eapi_Pol r1))))) (n' := 2) (SCall.lift [] (c_trim_flat hr1) (show 0 ≤ 1 by decide) (by decide) (show ∀ i ∈ [], i < 1 by decide) (dom_c (show 0 < 1 by decide) dom_n) (VNs.c (.d _) (VNs.c (.d _) VNs.nil0)) SN.nil0) (show 1 ≤ 2 by decide) ?_
  refine stepW (v := .loc 1 0 r2.length) (σ' := (upd (upd (upd (stab [(0, bv0)]) 1 (some (.lst true (some 4) (List.map eapi_Pol r1)))) 1 none) 1 (some (.lst true (some 4) (List.map eapi_Pol r2))))) (n' := 2) (SCall.lift [1] (c_trim_without hr2) (show 1 ≤ 1 by decide) (by decide) (show ∀ i ∈ [1], i < 2 by decide) (dom_c (show 0 < 1 by decide) dom_n) (VNs.c (.d _) (VNs.c (.lc 0) VNs.nil0)) (SN.c (show 0 < 1 by decide) rfl (.lst _ _ _) SN.nil0)) (show 2 ≤ 2 by decide) ?_
  refine q1 (.loc 1 0 r2.length) ?_
  exact nR [1, 0]
 refine NWp.seq ?_
 obtain ⟨r3, hr3, h⟩ := bindE h
 refine NWp.opsJ ⟨tab [(0, .loc 0 0 r2.length), (2, .ptr 1 0 0), (9, vb r3)], stab [(0, .lst true (some 4) (List.map eapi_Pol r2)), (1, bv0)], 2⟩ ?_ ?_
 ·
  refine q1 (.loc 0 0 r2.length) ?_
  refine stepW (v := vb r3) (σ' := _) (n' := _) (PCall.borrow (c_trim_has hr3) rfl (ViewsB.c (.d _) (ViewsB.c (viewB_all (xs := r2) (e := eapi_Pol) rfl rfl) ViewsB.nil0))) (Nat.le_refl _) ?_
  exact nR [0, 1]
 by_cases hc4 : r3 = true
 ·
  replace h := iteT hc4 h
  refine NWp.condT (t := r3) rfl hc4 ?_
  obtain ⟨r5, hr5, h⟩ := bindE h
  refine NWp.opsJ ⟨tab [(2, .ptr 0 0 0)], stab [(0, bv1 r5)], 1⟩ ?_ ?_
  ·
   refine stepC (r := uapi_Pol r5) ArgsOk.nil' (c_trim_drop hr5) ?_
   refine step (v := V.undef) (σ' := (upd (stab [(0, .lst true (some 4) (List.map eapi_Pol r2)), (1, bv0)]) 1 (some (bv1 r5)))) (n' := 2) rfl ?_
   exact nR [1]
  have hh := Option.some.inj h
  subst hh
  refine NWp.ret ?_
  show FQ _ _ _ _
  exact FQ.mk1 (.inr rfl) (res_cell (ds := [.int .i64 r5.Op, .int .i64 r5.F, .int .u16 r5.N, eL (some 4) eapi_Pol r5.Kids]) rfl rfl (show 4 ≤ 4 by decide) rfl rfl) (RV.d trivial)
 ·
  replace h := iteF hc4 h
  refine NWp.condF (t := r3) rfl hc4 ?_
  refine NWp.skip ?_
  refine NWp.seq ?_
  refine NWp.opsJ ⟨tab [(0, .loc 0 0 r2.length), (2, .ptr 1 0 0), (3, vb true)], stab [(0, .lst true (some 4) (List.map eapi_Pol r2)), (1, bv0)], 2⟩ ?_ ?_
  ·
   refine q1 (vb true) ?_
   exact nR [0, 1]
  obtain ⟨q25, hl, h⟩ := bindE h
  refine NWp.block ?_
  refine loop_whR (fun (qq : ((List api_Pol) × Bool)) => ⟨tab [(0, .loc 0 0 qq.1.length), (2, .ptr 1 0 0), (3, vb qq.2)], stab [(0, .lst true (some 4) (List.map eapi_Pol qq.1)), (1, bv0)], 2⟩) 0 (fun (qq : ((List api_Pol) × Bool)) => ⟨tab [(0, .loc 0 0 qq.1.length), (2, .ptr 1 0 0)], stab [(0, .lst true (some 4) (List.map eapi_Pol qq.1)), (1, bv0)], 2⟩) (r := r) hl ?_ ?_ ?_
  ·
   rintro ⟨l6, y7⟩ xr8 h
   show NWp _ _ _ _ _ ⟨tab [(0, .loc 0 0 l6.length), (2, .ptr 1 0 0), (3, vb y7)], stab [(0, .lst true (some 4) (List.map eapi_Pol l6)), (1, bv0)], 2⟩
   refine NWp.seq ?_
   refine NWp.opsJ ⟨tab [(0, .loc 0 0 l6.length), (2, .ptr 1 0 0), (11, vb y7)], stab [(0, .lst true (some 4) (List.map eapi_Pol l6)), (1, bv0)], 2⟩ ?_ ?_
   ·
    refine q1 (vb y7) ?_
    exact nR [0, 1]
   by_cases hc9 : y7 = true
   ·
    replace h := iteT hc9 h
    refine NWp.condT (t := y7) rfl hc9 ?_
    refine NWp.skip ?_
    refine NWp.block ?_
    refine NWp.opsJ ⟨tab [(0, .loc 0 0 l6.length), (2, .ptr 1 0 0)], stab [(0, .lst true (some 4) (List.map eapi_Pol l6)), (1, bv0)], 2⟩ ?_ ?_
    ·
     refine q1 (vb false) ?_
     exact nR [0, 1]
    obtain ⟨q16, hv, h⟩ := bindE h
    obtain ⟨l13, y14, y15⟩ := q16
    refine NWp.seqN ⟨tab [(0, .loc 0 0 l13.length), (2, .ptr 1 0 0), (3, vb y14), (4, vb y15)], stab [(0, .lst true (some 4) (List.map eapi_Pol l13)), (1, bv0)], 2⟩ ?_ ?_
    ·
     replace h := hv
     obtain ⟨r10, hr10, h⟩ := bindE h
     refine NWp.opsJ ⟨tab [(0, .loc 0 0 r10.1.length), (2, .ptr 1 0 0), (3, vb r10.2.2), (4, vb r10.2.1)], stab [(0, .lst true (some 4) (List.map eapi_Pol r10.1)), (1, bv0)], 2⟩ ?_ ?_
     ·
      refine q1 (.loc 0 0 l6.length) ?_
      refine stepW (v := .tup [.loc 0 0 r10.1.length, vb r10.2.1, vb r10.2.2]) (σ' := (upd (upd (stab [(0, .lst true (some 4) (List.map eapi_Pol l6)), (1, bv0)]) 0 none) 0 (some (.lst true (some 4) (List.map eapi_Pol r10.1))))) (n' := 2) (SCall.lift [0] (c_trim_closer hr10) (show 1 ≤ 1 by decide) (by decide) (show ∀ i ∈ [0], i < 2 by decide) (dom_c (show 0 < 1 by decide) dom_n) (VNs.c (.lc 0) (VNs.c (.d _) VNs.nil0)) (SN.c (show 0 < 1 by decide) rfl (.lst _ _ _) SN.nil0)) (show 2 ≤ 2 by decide) ?_
      refine q1 (.tup [.loc 0 0 r10.1.length, vb r10.2.1, vb r10.2.2]) ?_
      refine q1 (.loc 0 0 r10.1.length) ?_
      refine q1 (vb r10.2.1) ?_
      refine q1 (vb r10.2.2) ?_
      refine q1 (.loc 0 0 r10.1.length) ?_
      refine q1 (vb r10.2.1) ?_
      refine q1 (vb r10.2.2) ?_
      exact nR [0, 1]
     refine NWp.opsJ ⟨tab [(0, .loc 0 0 r10.1.length), (2, .ptr 1 0 0), (3, vb r10.2.2), (4, vb r10.2.1), (19, vb (!r10.2.2))], stab [(0, .lst true (some 4) (List.map eapi_Pol r10.1)), (1, bv0)], 2⟩ ?_ ?_
     ·
      refine q1 (vb r10.2.2) ?_
      refine q1 (vb (!r10.2.2)) ?_
      exact nR [0, 1]
     by_cases hc11 : (!r10.2.2) = true
     ·
      replace h := iteT hc11 h
      refine NWp.condT (t := (!r10.2.2)) rfl hc11 ?_
      obtain ⟨r12, hr12, h⟩ := bindE h
      have hh := Option.some.inj h
      obtain ⟨he0, ht0⟩ := Prod.mk.inj hh
      obtain ⟨he1, ht1⟩ := Prod.mk.inj ht0
      subst he0
      subst he1
      subst ht1
      refine NWp.opsE ⟨tab [(0, .loc 0 0 r12.1.length), (2, .ptr 1 0 0), (3, vb r12.2.2), (4, vb r12.2.1)], stab [(0, .lst true (some 4) (List.map eapi_Pol r12.1)), (1, bv0)], 2⟩ ?_ ?_
      ·
       refine q1 (.loc 0 0 r10.1.length) ?_
       refine stepW (v := .tup [.loc 0 0 r12.1.length, vb r12.2.1, vb r12.2.2]) (σ' := (upd (upd (stab [(0, .lst true (some 4) (List.map eapi_Pol r10.1)), (1, bv0)]) 0 none) 0 (some (.lst true (some 4) (List.map eapi_Pol r12.1))))) (n' := 2) (SCall.lift [0] (c_trim_closer hr12) (show 1 ≤ 1 by decide) (by decide) (show ∀ i ∈ [0], i < 2 by decide) (dom_c (show 0 < 1 by decide) dom_n) (VNs.c (.lc 0) (VNs.c (.d _) VNs.nil0)) (SN.c (show 0 < 1 by decide) rfl (.lst _ _ _) SN.nil0)) (show 2 ≤ 2 by decide) ?_
       refine q1 (.tup [.loc 0 0 r12.1.length, vb r12.2.1, vb r12.2.2]) ?_
       refine q1 (.loc 0 0 r12.1.length) ?_
       refine q1 (vb r12.2.1) ?_
       refine q1 (vb r12.2.2) ?_
       refine q1 (.loc 0 0 r12.1.length) ?_
       refine q1 (vb r12.2.1) ?_
       refine q1 (vb r12.2.2) ?_
       exact nR [0, 1]
      exact And.intro rfl rfl
     ·
      replace h := iteF hc11 h
      refine NWp.condF (t := (!r10.2.2)) rfl hc11 ?_
      have hh := Option.some.inj h
      obtain ⟨he0, ht0⟩ := Prod.mk.inj hh
      obtain ⟨he1, ht1⟩ := Prod.mk.inj ht0
      subst he0
      subst he1
      subst ht1
      refine NWp.norm (s0 := ⟨tab [(0, .loc 0 0 r10.1.length), (2, .ptr 1 0 0), (3, vb r10.2.2), (4, vb r10.2.1)], stab [(0, .lst true (some 4) (List.map eapi_Pol r10.1)), (1, bv0)], 2⟩) (nr [0, 1]) ?_
      refine NWp.skip ?_
      exact And.intro rfl rfl
    refine NWp.opsJ ⟨tab [(0, .loc 0 0 l13.length), (2, .ptr 1 0 0), (3, vb y14), (26, vb y15)], stab [(0, .lst true (some 4) (List.map eapi_Pol l13)), (1, bv0)], 2⟩ ?_ ?_
    ·
     refine q1 (vb y15) ?_
     exact nR [0, 1]
    by_cases hc17 : y15 = true
    ·
     replace h := iteT hc17 h
     refine NWp.condT (t := y15) rfl hc17 ?_
     obtain ⟨r18, hr18, h⟩ := bindE h
     refine NWp.opsJ ⟨tab [(2, .ptr 0 0 0)], stab [(0, bv1 r18)], 1⟩ ?_ ?_
     ·
      refine stepC (r := uapi_Pol r18) ArgsOk.nil' (c_trim_drop hr18) ?_
      refine step (v := V.undef) (σ' := (upd (stab [(0, .lst true (some 4) (List.map eapi_Pol l13)), (1, bv0)]) 1 (some (bv1 r18)))) (n' := 2) rfl ?_
      exact nR [1]
     obtain ⟨r19, kr19, hr⟩ := mapE (o := some r18) (g := Br.ret) h
     subst hr
     have h := kr19
     have hh := Option.some.inj h
     subst hh
     refine NWp.ret ?_
     refine And.intro (fun hn => nomatch hn) ?_
     intro hq
     have hq := hq.symm
     subst hq
     show FQ _ _ _ _
     exact FQ.mk1 (.inr rfl) (res_cell (ds := [.int .i64 r18.Op, .int .i64 r18.F, .int .u16 r18.N, eL (some 4) eapi_Pol r18.Kids]) rfl rfl (show 4 ≤ 4 by decide) rfl rfl) (RV.d trivial)
    ·
     replace h := iteF hc17 h
     refine NWp.condF (t := y15) rfl hc17 ?_
     have hh := Option.some.inj h
     subst hh
     refine NWp.norm (s0 := ⟨tab [(0, .loc 0 0 l13.length), (2, .ptr 1 0 0), (3, vb y14)], stab [(0, .lst true (some 4) (List.map eapi_Pol l13)), (1, bv0)], 2⟩) (nr [0, 1]) ?_
     refine NWp.skip ?_
     exact And.intro rfl rfl
   ·
    replace h := iteF hc9 h
    refine NWp.condF (t := y7) rfl hc9 ?_
    have hh := Option.some.inj h
    subst hh
    refine NWp.norm (s0 := ⟨tab [(0, .loc 0 0 l6.length), (2, .ptr 1 0 0)], stab [(0, .lst true (some 4) (List.map eapi_Pol l6)), (1, bv0)], 2⟩) (nr [0, 1]) ?_
    refine NWp.exit ?_
    exact And.intro rfl rfl
  ·
   intro r' hq
   subst hq
   exact Option.some.inj h
  rintro ⟨z19, z20⟩ rfl
  refine NWp.seq ?_
  refine NWp.opsJ ⟨tab [(0, .loc 0 0 z19.length), (2, .ptr 1 0 0), (29, vi (z19.length : Int))], stab [(0, .lst true (some 4) (List.map eapi_Pol z19)), (1, bv0)], 2⟩ ?_ ?_
  ·
   refine q1 (.loc 0 0 z19.length) ?_
   refine q1 (vi (z19.length : Int)) ?_
   exact nR [0, 1]
  refine NWp.block ?_
  refine NWp.opsJ ⟨tab [(0, .loc 0 0 z19.length), (2, .ptr 1 0 0), (29, vi (z19.length : Int)), (30, vb ((z19.length : Int) == 0))], stab [(0, .lst true (some 4) (List.map eapi_Pol z19)), (1, bv0)], 2⟩ ?_ ?_
  ·
   refine q1 (vb ((z19.length : Int) == 0)) ?_
   refine q1 (vb ((z19.length : Int) == 0)) ?_
   exact nR [0, 1]
  by_cases hc21 : ((z19.length : Int) == 0) = true
  ·
   replace h := iteT hc21 h
   refine NWp.condT (t := ((z19.length : Int) == 0)) rfl hc21 ?_
   obtain ⟨r22, hr22, h⟩ := bindE h
   refine NWp.opsJ ⟨tab [(2, .ptr 0 0 0)], stab [(0, bv1 r22)], 1⟩ ?_ ?_
   ·
    refine stepC (r := uapi_Pol r22) ArgsOk.nil' (c_trim_id hr22) ?_
    refine step (v := V.undef) (σ' := (upd (stab [(0, .lst true (some 4) (List.map eapi_Pol z19)), (1, bv0)]) 1 (some (bv1 r22)))) (n' := 2) rfl ?_
    exact nR [1]
   have hh := Option.some.inj h
   subst hh
   refine NWp.ret ?_
   show FQ _ _ _ _
   exact FQ.mk1 (.inr rfl) (res_cell (ds := [.int .i64 r22.Op, .int .i64 r22.F, .int .u16 r22.N, eL (some 4) eapi_Pol r22.Kids]) rfl rfl (show 4 ≤ 4 by decide) rfl rfl) (RV.d trivial)
  ·
   replace h := iteF hc21 h
   refine NWp.condF (t := ((z19.length : Int) == 0)) rfl hc21 ?_
   refine NWp.opsJ ⟨tab [(0, .loc 0 0 z19.length), (2, .ptr 1 0 0), (33, vb ((z19.length : Int) == 1))], stab [(0, .lst true (some 4) (List.map eapi_Pol z19)), (1, bv0)], 2⟩ ?_ ?_
   ·
    refine q1 (vb ((z19.length : Int) == 1)) ?_
    refine q1 (vb ((z19.length : Int) == 1)) ?_
    exact nR [0, 1]
   by_cases hc23 : ((z19.length : Int) == 1) = true
   ·
    replace h := iteT hc23 h
    refine NWp.condT (t := ((z19.length : Int) == 1)) rfl hc23 ?_
    obtain ⟨x24, hx24, h⟩ := bindE h
    refine NWp.opsJ ⟨tab [(2, .ptr 0 0 0)], stab [(0, bv1 x24)], 1⟩ ?_ ?_
    ·
     refine q1 (.loc 0 0 z19.length) ?_
     refine step (v := .ptr 0 (0 : Int).toNat 0) (st_iaddrL (xs := z19) (e := eapi_Pol) hx24 rfl rfl rfl rfl) ?_
     refine step (v := vs0 x24) (st_loadLU (xs := z19) (e := eapi_Pol) hx24 rfl rfl (eu_api_Pol _) rfl) ?_
     refine step (v := V.undef) (σ' := (upd (stab [(0, .lst true (some 4) (List.map eapi_Pol z19)), (1, bv0)]) 1 (some (bv1 x24)))) (n' := 2) rfl ?_
     exact nR [1]
    have hh := Option.some.inj h
    subst hh
    refine NWp.ret ?_
    show FQ _ _ _ _
    exact FQ.mk1 (.inr rfl) (res_cell (ds := [.int .i64 x24.Op, .int .i64 x24.F, .int .u16 x24.N, eL (some 4) eapi_Pol x24.Kids]) rfl rfl (show 4 ≤ 4 by decide) rfl rfl) (RV.d trivial)
   ·
    replace h := iteF hc23 h
    refine NWp.condF (t := ((z19.length : Int) == 1)) rfl hc23 ?_
    refine NWp.skip ?_
    refine NWp.opsJ ⟨tab [(2, .ptr 0 0 0)], stab [(0, .var [vi 6, vi 0, vh 0, .loc 1 0 z19.length]), (1, .lst true (some 4) (List.map eapi_Pol z19))], 2⟩ ?_ ?_
    ·
     refine q1 (.loc 0 0 z19.length) ?_
     refine q1 (.agg [vi 6, vi 0, vh 0, .loc 0 0 z19.length]) ?_
     refine step (v := V.undef) (σ' := (upd (stab [(0, .lst true (some 4) (List.map eapi_Pol z19)), (1, bv0)]) 1 (some (.var [vi 6, vi 0, vh 0, .loc 0 0 z19.length])))) (n' := 2) rfl ?_
     exact nR [1, 0]
    have hh := Option.some.inj h
    subst hh
    refine NWp.ret ?_
    show FQ _ _ _ _
    exact FQ.mk1 (.inr rfl) rfl (RV.agg (RV0.d (RV0.d (RV0.d (RV0.loc (xs := z19) (e := eapi_Pol) rfl rfl trivial)))) trivial)

theorem c_trim_not {a0 : api_Pol} {r : api_Pol} (h : trim_not a0 = some r) : PCall Try.prog 94 [uapi_Pol a0] (uapi_Pol r) := by
 refine PCall.introN ok94 (show 1 ≤ 20 by decide) ?_
 refine NWp.norm (s0 := ⟨tab [(0, vs0 a0)], stab [], 0⟩) (nr []) ?_
 refine NWp.opsJ ⟨tab [(1, vp0 a0), (2, .ptr 0 0 0)], stab [(0, bv0)], 1⟩ ?_ ?_
 ·
  refine q1 (vp0 a0) ?_
  refine step (v := .ptr 0 0 0) (σ' := (upd (stab []) 0 (some (bv0)))) (n' := 1) rfl ?_
  exact nR [0]
 refine NWp.seq ?_
 refine NWp.opsJ ⟨tab [(1, vp0 a0), (2, .ptr 0 0 0), (4, vi a0.Op)], stab [(0, bv0)], 1⟩ ?_ ?_
 ·
  refine q1 (vp0 a0) ?_
  refine q1 (vi a0.Op) ?_
  exact nR [0]
 refine NWp.block ?_
 refine NWp.opsJ ⟨tab [(1, vp0 a0), (2, .ptr 0 0 0), (4, vi a0.Op), (5, vb (a0.Op == 0))], stab [(0, bv0)], 1⟩ ?_ ?_
 ·
  refine q1 (vb (a0.Op == 0)) ?_
  refine q1 (vb (a0.Op == 0)) ?_
  exact nR [0]
 by_cases hc1 : (a0.Op == 0) = true
 ·
  replace h := iteT hc1 h
  refine NWp.condT (t := (a0.Op == 0)) rfl hc1 ?_
  obtain ⟨r2, hr2, h⟩ := bindE h
  refine NWp.opsJ ⟨tab [(2, .ptr 0 0 0)], stab [(0, bv1 r2)], 1⟩ ?_ ?_
  ·
   refine stepC (r := uapi_Pol r2) ArgsOk.nil' (c_trim_id hr2) ?_
   refine step (v := V.undef) (σ' := (upd (stab [(0, bv0)]) 0 (some (bv1 r2)))) (n' := 1) rfl ?_
   exact nR [0]
  have hh := Option.some.inj h
  subst hh
  refine NWp.ret ?_
  show FQ _ _ _ _
  exact FQ.mk1 (.inr rfl) (res_cell (ds := [.int .i64 r2.Op, .int .i64 r2.F, .int .u16 r2.N, eL (some 4) eapi_Pol r2.Kids]) rfl rfl (show 4 ≤ 4 by decide) rfl rfl) (RV.d trivial)
 ·
  replace h := iteF hc1 h
  refine NWp.condF (t := (a0.Op == 0)) rfl hc1 ?_
  refine NWp.opsJ ⟨tab [(1, vp0 a0), (2, .ptr 0 0 0), (4, vi a0.Op), (8, vb (a0.Op == 1))], stab [(0, bv0)], 1⟩ ?_ ?_
  ·
   refine q1 (vb (a0.Op == 1)) ?_
   refine q1 (vb (a0.Op == 1)) ?_
   exact nR [0]
  by_cases hc3 : (a0.Op == 1) = true
  ·
   replace h := iteT hc3 h
   refine NWp.condT (t := (a0.Op == 1)) rfl hc3 ?_
   obtain ⟨r4, hr4, h⟩ := bindE h
   refine NWp.opsJ ⟨tab [(2, .ptr 0 0 0)], stab [(0, bv1 r4)], 1⟩ ?_ ?_
   ·
    refine stepC (r := uapi_Pol r4) ArgsOk.nil' (c_trim_drop hr4) ?_
    refine step (v := V.undef) (σ' := (upd (stab [(0, bv0)]) 0 (some (bv1 r4)))) (n' := 1) rfl ?_
    exact nR [0]
   have hh := Option.some.inj h
   subst hh
   refine NWp.ret ?_
   show FQ _ _ _ _
   exact FQ.mk1 (.inr rfl) (res_cell (ds := [.int .i64 r4.Op, .int .i64 r4.F, .int .u16 r4.N, eL (some 4) eapi_Pol r4.Kids]) rfl rfl (show 4 ≤ 4 by decide) rfl rfl) (RV.d trivial)
  ·
   replace h := iteF hc3 h
   refine NWp.condF (t := (a0.Op == 1)) rfl hc3 ?_
   refine NWp.opsJ ⟨tab [(1, vp0 a0), (2, .ptr 0 0 0), (11, vb (a0.Op == 4))], stab [(0, bv0)], 1⟩ ?_ ?_
   ·
    refine q1 (vb (a0.Op == 4)) ?_
    refine q1 (vb (a0.Op == 4)) ?_
    exact nR [0]
   by_cases hc5 : (a0.Op == 4) = true
   ·
    replace h := iteT hc5 h
    refine NWp.condT (t := (a0.Op == 4)) rfl hc5 ?_
    obtain ⟨x6, hx6, h⟩ := bindE h
    refine NWp.opsJ ⟨tab [(2, .ptr 0 0 0)], stab [(0, bv1 x6)], 1⟩ ?_ ?_
    ·
     refine q1 (.d (.cptr (some 4) (uapi_Pol a0) 3)) ?_
     refine q1 (vl0 a0.Kids) ?_
     refine step (v := vp0 x6) (st_iaddrU (xs := a0.Kids) (e := eapi_Pol) hx6 rfl rfl (eu_api_Pol _)) ?_
     refine q1 (vs0 x6) ?_
     refine step (v := V.undef) (σ' := (upd (stab [(0, bv0)]) 0 (some (bv1 x6)))) (n' := 1) rfl ?_
     exact nR [0]
    have hh := Option.some.inj h
    subst hh
    refine NWp.ret ?_
    show FQ _ _ _ _
    exact FQ.mk1 (.inr rfl) (res_cell (ds := [.int .i64 x6.Op, .int .i64 x6.F, .int .u16 x6.N, eL (some 4) eapi_Pol x6.Kids]) rfl rfl (show 4 ≤ 4 by decide) rfl rfl) (RV.d trivial)
   ·
    replace h := iteF hc5 h
    refine NWp.condF (t := (a0.Op == 4)) rfl hc5 ?_
    refine NWp.skip ?_
    refine NWp.opsJ ⟨tab [(2, .ptr 0 0 0)], stab [(0, .var [vi 4, vi 0, vh 0, vl0 ([a0] : List api_Pol)])], 1⟩ ?_ ?_
    ·
     refine q1 (vs0 a0) ?_
     refine step (v := vl0 ([a0] : List api_Pol)) (st_eq rfl (by simp [eL, eu_api_Pol])) ?_
     refine step (v := vs0 (api_Pol.mk 4 0 0 ([a0] : List api_Pol))) (st_build (ds := [.int .i64 4, .int .i64 0, .int .u16 0, eL (some 4) eapi_Pol ([a0] : List api_Pol)]) rfl) ?_
     refine step (v := V.undef) (σ' := (upd (stab [(0, bv0)]) 0 (some (.var [vi 4, vi 0, vh 0, vl0 ([a0] : List api_Pol)])))) (n' := 1) rfl ?_
     exact nR [0]
    have hh := Option.some.inj h
    subst hh
    refine NWp.ret ?_
    show FQ _ _ _ _
    exact FQ.mk1 (.inr rfl) (res_cell (ds := [.int .i64 4, .int .i64 0, .int .u16 0, eL (some 4) eapi_Pol ([a0] : List api_Pol)]) rfl rfl (show 4 ≤ 4 by decide) rfl rfl) (RV.d trivial)

theorem c_trim_trimmed_s {self : api_Pol → Option api_Pol} (hself : ∀ (a0 : api_Pol) (r : api_Pol), self a0 = some r → PCall Try.prog 76 [uapi_Pol a0] (uapi_Pol r)) {a0 : api_Pol} {r : api_Pol} (h : trim_trimmed_s self a0 = some r) : PCall Try.prog 76 [uapi_Pol a0] (uapi_Pol r) := by
 refine PCall.introN ok76 (show 1 ≤ 37 by decide) ?_
 refine NWp.norm (s0 := ⟨tab [(0, vs0 a0)], stab [], 0⟩) (nr []) ?_
 refine NWp.opsJ ⟨tab [(1, .ptr 0 0 0), (2, .ptr 1 0 0)], stab [(0, bv1 a0), (1, bv0)], 2⟩ ?_ ?_
 ·
  refine step (v := .ptr 0 0 0) (σ' := (upd (stab []) 0 (some (bv1 a0)))) (n' := 1) rfl ?_
  refine step (v := .ptr 1 0 0) (σ' := (upd (upd (stab []) 0 (some (bv1 a0))) 1 (some (bv0)))) (n' := 2) rfl ?_
  exact nR [0, 1]
 refine NWp.opsJ ⟨tab [(1, .ptr 0 0 0), (2, .ptr 1 0 0), (3, .d (.nils))], stab [(0, bv1 a0), (1, bv0)], 2⟩ ?_ ?_
 ·
  refine q1 (.d (.nils)) ?_
  exact nR [0, 1]
 refine NWp.seq ?_
 refine NWp.opsJ ⟨tab [(1, .ptr 0 0 0), (2, .ptr 1 0 0), (3, .d (.nils)), (7, vl0 a0.Kids), (8, vi (a0.Kids.length : Int)), (9, vi 0)], stab [(0, bv1 a0), (1, bv0)], 2⟩ ?_ ?_
 ·
  refine q1 (.ptr 0 0 3) ?_
  refine q1 (vl0 a0.Kids) ?_
  refine step (v := vi (a0.Kids.length : Int)) (st_len (xs := a0.Kids) (e := eapi_Pol) rfl) ?_
  refine q1 (vi 0) ?_
  exact nR [0, 1]
 obtain ⟨z11, hl, h⟩ := bindE h
 refine NWp.norm (s0 := ⟨tab [(1, .ptr 0 0 0), (2, .ptr 1 0 0), (3, .loc 2 0 (([] : List api_Pol).length)), (7, vl0 a0.Kids), (8, vi (a0.Kids.length : Int)), (9, vi 0)], stab [(0, bv1 a0), (1, bv0), (2, .lst false (some 4) (List.map eapi_Pol ([] : List api_Pol)))], 3⟩) (Norm.trans (s2 := ⟨tab [(1, .ptr 0 0 0), (2, .ptr 1 0 0), (3, .loc 2 0 (([] : List api_Pol).length)), (7, vl0 a0.Kids), (8, vi (a0.Kids.length : Int)), (9, vi 0)], stab [(0, bv1 a0), (1, bv0), (2, .lst false (some 4) (List.map eapi_Pol ([] : List api_Pol)))], 3⟩) (Norm.nil1 3 false (some 4) rfl) (nr [0, 1, 2])) ?_
 refine NWp.block ?_
 refine loop_forO (cntU (a0.Kids.length : Int)) (fun (i2 : Int) (qq : (List api_Pol)) => ⟨tab [(1, .ptr 0 0 0), (2, .ptr 1 0 0), (3, .loc 2 0 qq.length), (7, vl0 a0.Kids), (8, vi (a0.Kids.length : Int)), (9, vi i2)], stab [(0, bv1 a0), (1, bv0), (2, .lst false (some 4) (List.map eapi_Pol qq))], 3⟩) 0 (fun (qq : (List api_Pol)) => ⟨tab [(1, .ptr 0 0 0), (2, .ptr 1 0 0), (3, .loc 2 0 qq.length)], stab [(0, bv1 a0), (1, bv0), (2, .lst false (some 4) (List.map eapi_Pol qq))], 3⟩) Low low_step hl (by unfold Low; omega) ?_ ?_ ?_
 ·
  rintro i2 l1 xr7 hinv5 hgo4 h
  show NWp _ _ _ _ _ ⟨tab [(1, .ptr 0 0 0), (2, .ptr 1 0 0), (3, .loc 2 0 l1.length), (7, vl0 a0.Kids), (8, vi (a0.Kids.length : Int)), (9, vi i2)], stab [(0, bv1 a0), (1, bv0), (2, .lst false (some 4) (List.map eapi_Pol l1))], 3⟩
  have hc6 : decide (i2 < (a0.Kids.length : Int)) = true := decide_eq_true hgo4
  refine NWp.opsJ ⟨tab [(1, .ptr 0 0 0), (2, .ptr 1 0 0), (3, .loc 2 0 l1.length), (7, vl0 a0.Kids), (8, vi (a0.Kids.length : Int)), (9, vi i2), (10, vb (decide (i2 < (a0.Kids.length : Int))))], stab [(0, bv1 a0), (1, bv0), (2, .lst false (some 4) (List.map eapi_Pol l1))], 3⟩ ?_ ?_
  ·
   refine q1 (vb (decide (i2 < (a0.Kids.length : Int)))) ?_
   exact nR [0, 1, 2]
  refine NWp.rng 8 rfl fun hB3 => ?_
  refine NWp.seq ?_
  refine NWp.condT (t := decide (i2 < (a0.Kids.length : Int))) rfl hc6 ?_
  refine NWp.skip ?_
  refine NWp.seq ?_
  refine NWp.block ?_
  obtain ⟨x8, hx8, h⟩ := bindE h
  refine NWp.opsJ ⟨tab [(1, .ptr 0 0 0), (2, .ptr 1 0 0), (3, .loc 2 0 l1.length), (5, .ptr 3 0 0), (7, vl0 a0.Kids), (8, vi (a0.Kids.length : Int)), (9, vi i2)], stab [(0, bv1 a0), (1, bv0), (2, .lst false (some 4) (List.map eapi_Pol l1)), (3, bv1 x8)], 4⟩ ?_ ?_
  ·
   refine step (v := vp0 x8) (st_iaddrU (xs := a0.Kids) (e := eapi_Pol) hx8 rfl rfl (eu_api_Pol _)) ?_
   refine q1 (vs0 x8) ?_
   refine step (v := .ptr 3 0 0) (σ' := (upd (stab [(0, bv1 a0), (1, bv0), (2, .lst false (some 4) (List.map eapi_Pol l1))]) 3 (some (bv0)))) (n' := 4) rfl ?_
   refine step (v := V.undef) (σ' := (upd (upd (stab [(0, bv1 a0), (1, bv0), (2, .lst false (some 4) (List.map eapi_Pol l1))]) 3 (some (bv0))) 3 (some (bv1 x8)))) (n' := 4) rfl ?_
   exact nR [0, 1, 2, 3]
  obtain ⟨r9, hr9, h⟩ := bindE h
  obtain ⟨l10, hl10, h⟩ := bindE h
  refine NWp.opsE ⟨tab [(1, .ptr 0 0 0), (2, .ptr 1 0 0), (3, .loc 2 0 l10.length), (7, vl0 a0.Kids), (8, vi (a0.Kids.length : Int)), (9, vi i2)], stab [(0, bv1 a0), (1, bv0), (2, .lst false (some 4) (List.map eapi_Pol l10))], 3⟩ ?_ ?_
  ·
   refine q1 (.loc 2 0 l1.length) ?_
   refine step (v := vs0 x8) (st_ldV (ds := [.int .i64 x8.Op, .int .i64 x8.F, .int .u16 x8.N, eL (some 4) eapi_Pol x8.Kids]) rfl rfl (show 4 ≤ 4 by decide) rfl) ?_
   refine stepC (r := uapi_Pol r9) (ArgsOk.dt ArgsOk.nil') (hself _ _ hr9) ?_
   refine step (v := vl0 ([r9] : List api_Pol)) (st_eq rfl (by simp [eL, eu_api_Pol])) ?_
   refine step (v := .loc 4 0 l10.length) (σ' := (upd (upd (stab [(0, bv1 a0), (1, bv0), (2, .lst false (some 4) (List.map eapi_Pol l1)), (3, bv1 x8)]) 2 none) 4 (some (.lst false (some 4) (List.map eapi_Pol l10))))) (n' := 5) (st_app (xs := l1) (ys := ([r9] : List api_Pol)) (e := eapi_Pol) hl10 rfl rfl rfl (src_v (xs := ([r9] : List api_Pol)) (e := eapi_Pol) rfl)) ?_
   refine q1 (.loc 4 0 l10.length) ?_
   exact nR [0, 1, 4]
  have hh := Option.some.inj h
  subst hh
  refine NWp.opsE ⟨tab [(1, .ptr 0 0 0), (2, .ptr 1 0 0), (3, .loc 2 0 l10.length), (7, vl0 a0.Kids), (8, vi (a0.Kids.length : Int)), (9, vi (i2 + 1))], stab [(0, bv1 a0), (1, bv0), (2, .lst false (some 4) (List.map eapi_Pol l10))], 3⟩ ?_ ?_
  ·
   refine step (v := vi (i2 + 1)) (st_inc (inc_ok hinv5 hgo4 hB3) rfl rfl) ?_
   refine q1 (vi (i2 + 1)) ?_
   exact nR [0, 1, 2]
  exact And.intro rfl rfl
 ·
  rintro i2 l1 hinv5 hgo4
  show NWp _ _ _ _ _ ⟨tab [(1, .ptr 0 0 0), (2, .ptr 1 0 0), (3, .loc 2 0 l1.length), (7, vl0 a0.Kids), (8, vi (a0.Kids.length : Int)), (9, vi i2)], stab [(0, bv1 a0), (1, bv0), (2, .lst false (some 4) (List.map eapi_Pol l1))], 3⟩
  have hc6 : ¬ (decide (i2 < (a0.Kids.length : Int)) = true) := fun hq => hgo4 (of_decide_eq_true hq)
  refine NWp.opsJ ⟨tab [(1, .ptr 0 0 0), (2, .ptr 1 0 0), (3, .loc 2 0 l1.length), (7, vl0 a0.Kids), (8, vi (a0.Kids.length : Int)), (9, vi i2), (10, vb (decide (i2 < (a0.Kids.length : Int))))], stab [(0, bv1 a0), (1, bv0), (2, .lst false (some 4) (List.map eapi_Pol l1))], 3⟩ ?_ ?_
  ·
   refine q1 (vb (decide (i2 < (a0.Kids.length : Int)))) ?_
   exact nR [0, 1, 2]
  refine NWp.seq ?_
  refine NWp.condF (t := decide (i2 < (a0.Kids.length : Int))) rfl hc6 ?_
  refine NWp.norm (s0 := ⟨tab [(1, .ptr 0 0 0), (2, .ptr 1 0 0), (3, .loc 2 0 l1.length)], stab [(0, bv1 a0), (1, bv0), (2, .lst false (some 4) (List.map eapi_Pol l1))], 3⟩) (nr [0, 1, 2]) ?_
  refine NWp.exit ?_
  exact And.intro rfl rfl
 refine NWp.seq ?_
 refine NWp.opsJ ⟨tab [(1, .ptr 0 0 0), (2, .ptr 1 0 0), (3, .loc 2 0 z11.length), (20, vi a0.Op)], stab [(0, bv1 a0), (1, bv0), (2, .lst false (some 4) (List.map eapi_Pol z11))], 3⟩ ?_ ?_
 ·
  refine q1 (.ptr 0 0 0) ?_
  refine q1 (vi a0.Op) ?_
  exact nR [0, 1, 2]
 refine NWp.block ?_
 refine NWp.opsJ ⟨tab [(1, .ptr 0 0 0), (2, .ptr 1 0 0), (3, .loc 2 0 z11.length), (20, vi a0.Op), (21, vb (a0.Op == 7))], stab [(0, bv1 a0), (1, bv0), (2, .lst false (some 4) (List.map eapi_Pol z11))], 3⟩ ?_ ?_
 ·
  refine q1 (vb (a0.Op == 7)) ?_
  refine q1 (vb (a0.Op == 7)) ?_
  exact nR [0, 1, 2]
 by_cases hc12 : (a0.Op == 7) = true
 ·
  replace h := iteT hc12 h
  refine NWp.condT (t := (a0.Op == 7)) rfl hc12 ?_
  obtain ⟨r13, hr13, h⟩ := bindE h
  refine NWp.opsJ ⟨tab [(2, .ptr 0 0 0)], stab [(0, bv1 r13)], 1⟩ ?_ ?_
  ·
   refine q1 (.loc 2 0 z11.length) ?_
   refine stepC (r := uapi_Pol r13) (ArgsOk.lcm (xs := z11) (e := eapi_Pol) rfl rfl ArgsOk.nil') (c_trim_sum hr13) ?_
   refine step (v := V.undef) (σ' := (upd (stab [(0, bv1 a0), (1, bv0), (2, .lst false (some 4) (List.map eapi_Pol z11))]) 1 (some (bv1 r13)))) (n' := 3) rfl ?_
   exact nR [1]
  have hh := Option.some.inj h
  subst hh
  refine NWp.ret ?_
  show FQ _ _ _ _
  exact FQ.mk1 (.inr rfl) (res_cell (ds := [.int .i64 r13.Op, .int .i64 r13.F, .int .u16 r13.N, eL (some 4) eapi_Pol r13.Kids]) rfl rfl (show 4 ≤ 4 by decide) rfl rfl) (RV.d trivial)
 ·
  replace h := iteF hc12 h
  refine NWp.condF (t := (a0.Op == 7)) rfl hc12 ?_
  refine NWp.opsJ ⟨tab [(1, .ptr 0 0 0), (2, .ptr 1 0 0), (3, .loc 2 0 z11.length), (20, vi a0.Op), (25, vb (a0.Op == 6))], stab [(0, bv1 a0), (1, bv0), (2, .lst false (some 4) (List.map eapi_Pol z11))], 3⟩ ?_ ?_
  ·
   refine q1 (vb (a0.Op == 6)) ?_
   refine q1 (vb (a0.Op == 6)) ?_
   exact nR [0, 1, 2]
  by_cases hc14 : (a0.Op == 6) = true
  ·
   replace h := iteT hc14 h
   refine NWp.condT (t := (a0.Op == 6)) rfl hc14 ?_
   obtain ⟨r15, hr15, h⟩ := bindE h
   refine NWp.opsJ ⟨tab [(2, .ptr 0 0 0)], stab [(0, bv1 r15)], 1⟩ ?_ ?_
   ·
    refine q1 (.loc 2 0 z11.length) ?_
    refine stepC (r := uapi_Pol r15) (ArgsOk.lcm (xs := z11) (e := eapi_Pol) rfl rfl ArgsOk.nil') (c_trim_seq hr15) ?_
    refine step (v := V.undef) (σ' := (upd (stab [(0, bv1 a0), (1, bv0), (2, .lst false (some 4) (List.map eapi_Pol z11))]) 1 (some (bv1 r15)))) (n' := 3) rfl ?_
    exact nR [1]
   have hh := Option.some.inj h
   subst hh
   refine NWp.ret ?_
   show FQ _ _ _ _
   exact FQ.mk1 (.inr rfl) (res_cell (ds := [.int .i64 r15.Op, .int .i64 r15.F, .int .u16 r15.N, eL (some 4) eapi_Pol r15.Kids]) rfl rfl (show 4 ≤ 4 by decide) rfl rfl) (RV.d trivial)
  ·
   replace h := iteF hc14 h
   refine NWp.condF (t := (a0.Op == 6)) rfl hc14 ?_
   refine NWp.opsJ ⟨tab [(1, .ptr 0 0 0), (2, .ptr 1 0 0), (3, .loc 2 0 z11.length), (29, vb (a0.Op == 4))], stab [(0, bv1 a0), (1, bv0), (2, .lst false (some 4) (List.map eapi_Pol z11))], 3⟩ ?_ ?_
   ·
    refine q1 (vb (a0.Op == 4)) ?_
    refine q1 (vb (a0.Op == 4)) ?_
    exact nR [0, 1, 2]
   by_cases hc16 : (a0.Op == 4) = true
   ·
    replace h := iteT hc16 h
    refine NWp.condT (t := (a0.Op == 4)) rfl hc16 ?_
    obtain ⟨x17, hx17, h⟩ := bindE h
    obtain ⟨r18, hr18, h⟩ := bindE h
    refine NWp.opsJ ⟨tab [(2, .ptr 0 0 0)], stab [(0, bv1 r18)], 1⟩ ?_ ?_
    ·
     refine q1 (.loc 2 0 z11.length) ?_
     refine step (v := .ptr 2 (0 : Int).toNat 0) (st_iaddrL (xs := z11) (e := eapi_Pol) hx17 rfl rfl rfl rfl) ?_
     refine step (v := vs0 x17) (st_loadLU (xs := z11) (e := eapi_Pol) hx17 rfl rfl (eu_api_Pol _) rfl) ?_
     refine stepC (r := uapi_Pol r18) (ArgsOk.dt ArgsOk.nil') (c_trim_not hr18) ?_
     refine step (v := V.undef) (σ' := (upd (stab [(0, bv1 a0), (1, bv0), (2, .lst false (some 4) (List.map eapi_Pol z11))]) 1 (some (bv1 r18)))) (n' := 3) rfl ?_
     exact nR [1]
    have hh := Option.some.inj h
    subst hh
    refine NWp.ret ?_
    show FQ _ _ _ _
    exact FQ.mk1 (.inr rfl) (res_cell (ds := [.int .i64 r18.Op, .int .i64 r18.F, .int .u16 r18.N, eL (some 4) eapi_Pol r18.Kids]) rfl rfl (show 4 ≤ 4 by decide) rfl rfl) (RV.d trivial)
   ·
    replace h := iteF hc16 h
    refine NWp.condF (t := (a0.Op == 4)) rfl hc16 ?_
    refine NWp.skip ?_
    refine NWp.opsJ ⟨tab [(1, .ptr 0 0 0), (2, .ptr 1 0 0)], stab [(0, .var [vi a0.Op, vi a0.F, vh a0.N, vl0 ([] : List api_Pol)]), (1, bv0)], 2⟩ ?_ ?_
    ·
     refine q1 (.ptr 0 0 3) ?_
     refine step (v := V.undef) (σ' := (upd (stab [(0, bv1 a0), (1, bv0), (2, .lst false (some 4) (List.map eapi_Pol z11))]) 0 (some (.var [vi a0.Op, vi a0.F, vh a0.N, vl0 ([] : List api_Pol)])))) (n' := 3) rfl ?_
     exact nR [0, 1]
    refine NWp.opsJ ⟨tab [(2, .ptr 0 0 0)], stab [(0, .var [vi a0.Op, vi a0.F, vh a0.N, vl0 ([] : List api_Pol)])], 1⟩ ?_ ?_
    ·
     refine step (v := vs0 (api_Pol.mk a0.Op a0.F a0.N ([] : List api_Pol))) (st_ldV (ds := [.int .i64 a0.Op, .int .i64 a0.F, .int .u16 a0.N, eL (some 4) eapi_Pol ([] : List api_Pol)]) rfl rfl (show 4 ≤ 4 by decide) rfl) ?_
     refine step (v := V.undef) (σ' := (upd (stab [(0, .var [vi a0.Op, vi a0.F, vh a0.N, vl0 ([] : List api_Pol)]), (1, bv0)]) 1 (some (.var [vi a0.Op, vi a0.F, vh a0.N, vl0 ([] : List api_Pol)])))) (n' := 2) rfl ?_
     exact nR [1]
    have hh := Option.some.inj h
    subst hh
    refine NWp.ret ?_
    show FQ _ _ _ _
    exact FQ.mk1 (.inr rfl) (res_cell (ds := [.int .i64 a0.Op, .int .i64 a0.F, .int .u16 a0.N, eL (some 4) eapi_Pol ([] : List api_Pol)]) rfl rfl (show 4 ≤ 4 by decide) rfl rfl) (RV.d trivial)

theorem c_trim_trimmed_f : ∀ (k : Nat) (a0 : api_Pol) (r : api_Pol), trim_trimmed_f k a0 = some r → PCall Try.prog 76 [uapi_Pol a0] (uapi_Pol r)
 | 0, _, _, h => by cases h
 | k + 1, _, _, h => c_trim_trimmed_s (c_trim_trimmed_f k) h

theorem c_trim_trimmed {a0 : api_Pol} {r : api_Pol} (h : trim_trimmed a0 = some r) : PCall Try.prog 76 [uapi_Pol a0] (uapi_Pol r) := c_trim_trimmed_f FUEL _ _ h

theorem c_trim_Trim {a0 : api_Pol} {r : api_Pol} (h : trim_Trim a0 = some r) : PCall Try.prog 38 [uapi_Pol a0] (uapi_Pol r) := by
 refine PCall.introN ok38 (show 1 ≤ 11 by decide) ?_
 refine NWp.norm (s0 := ⟨tab [(0, vs0 a0)], stab [], 0⟩) (nr []) ?_
 refine NWp.opsJ ⟨tab [(1, vp0 a0), (2, .ptr 0 0 0)], stab [(0, bv0)], 1⟩ ?_ ?_
 ·
  refine q1 (vp0 a0) ?_
  refine step (v := .ptr 0 0 0) (σ' := (upd (stab []) 0 (some (bv0)))) (n' := 1) rfl ?_
  exact nR [0]
 refine NWp.seq ?_
 obtain ⟨l1, hl1, h⟩ := bindE h
 obtain ⟨r2, hr2, h⟩ := bindE h
 refine NWp.opsJ ⟨tab [(1, vp0 a0), (2, .ptr 0 0 0), (7, vb (r2 != 0))], stab [(0, bv0)], 1⟩ ?_ ?_
 ·
  refine step (v := .loc 1 0 l1.length) (σ' := (upd (stab [(0, bv0)]) 1 (some (.lst false none (List.map (D.int .u16) l1))))) (n' := 2) (st_mkF (e := (D.int .u16)) (z := 0) hl1 rfl rfl (gmk_le hl1)) ?_
  refine q1 (vs0 a0) ?_
  refine q1 (.agg [.loc 1 0 l1.length, vi a0.Op, vi a0.F, vh a0.N, vl0 a0.Kids, vl2 []]) ?_
  refine stepC (r := .int .i64 r2) (ArgsOk.vw (va_agg (optC (vc_l (xs := l1) (e := (D.int .u16)) rfl rfl) (optC vc_d (optC vc_d (optC vc_d (optC vc_d (optC vc_d optN))))))) (Sub.aggs (by exact ⟨.refl _, .refl _, .refl _, .refl _, .refl _, .refl _, trivial⟩)) ArgsOk.nil') (c_syntax_Check hr2) ?_
  refine q1 (vb (r2 != 0)) ?_
  exact nR [0]
 by_cases hc3 : (r2 != 0) = true
 ·
  replace h := iteT hc3 h
  refine NWp.condT (t := (r2 != 0)) rfl hc3 ?_
  refine NWp.opsJ ⟨tab [(2, .ptr 0 0 0)], stab [(0, bv1 a0)], 1⟩ ?_ ?_
  ·
   refine q1 (vs0 a0) ?_
   refine step (v := V.undef) (σ' := (upd (stab [(0, bv0)]) 0 (some (bv1 a0)))) (n' := 1) rfl ?_
   exact nR [0]
  have hh := Option.some.inj h
  subst hh
  refine NWp.ret ?_
  show FQ _ _ _ _
  exact FQ.mk1 (.inr rfl) (res_cell (ds := [.int .i64 a0.Op, .int .i64 a0.F, .int .u16 a0.N, eL (some 4) eapi_Pol a0.Kids]) rfl rfl (show 4 ≤ 4 by decide) rfl rfl) (RV.d trivial)
 ·
  replace h := iteF hc3 h
  refine NWp.condF (t := (r2 != 0)) rfl hc3 ?_
  refine NWp.skip ?_
  obtain ⟨r4, hr4, h⟩ := bindE h
  refine NWp.opsJ ⟨tab [(2, .ptr 0 0 0)], stab [(0, bv1 r4)], 1⟩ ?_ ?_
  ·
   refine q1 (vs0 a0) ?_
   refine stepC (r := uapi_Pol r4) (ArgsOk.dt ArgsOk.nil') (c_trim_trimmed hr4) ?_
   refine step (v := V.undef) (σ' := (upd (stab [(0, bv0)]) 0 (some (bv1 r4)))) (n' := 1) rfl ?_
   exact nR [0]
  have hh := Option.some.inj h
  subst hh
  refine NWp.ret ?_
  show FQ _ _ _ _
  exact FQ.mk1 (.inr rfl) (res_cell (ds := [.int .i64 r4.Op, .int .i64 r4.F, .int .u16 r4.N, eL (some 4) eapi_Pol r4.Kids]) rfl rfl (show 4 ≤ 4 by decide) rfl rfl) (RV.d trivial)

theorem c_ref05_SamePol_s {self : api_Pol → api_Pol → Option Bool} (hself : ∀ (a0 : api_Pol) (a1 : api_Pol) (r : Bool), self a0 a1 = some r → PCall Try.prog 41 [uapi_Pol a0, uapi_Pol a1] (.bool r)) {a0 : api_Pol} {a1 : api_Pol} {r : Bool} (h : ref05_SamePol_s self a0 a1 = some r) : PCall Try.prog 41 [uapi_Pol a0, uapi_Pol a1] (.bool r) := by
 refine PCall.introN ok41 (show 2 ≤ 53 by decide) ?_
 refine NWp.norm (s0 := ⟨tab [(0, vs0 a0), (1, vs0 a1)], stab [], 0⟩) (nr []) ?_
 refine NWp.opsJ ⟨tab [(2, vp0 a0), (3, vp0 a1)], stab [], 0⟩ ?_ ?_
 ·
  refine q1 (vp0 a0) ?_
  refine q1 (vp0 a1) ?_
  refine q1 (vb false) ?_
  exact nR []
 refine NWp.seq ?_
 refine NWp.opsJ ⟨tab [(2, vp0 a0), (3, vp0 a1), (33, vb ((a0.Op != a1.Op) || ((a0.F != a1.F) || ((a0.N != a1.N) || ((a0.Kids.length : Int) != (a1.Kids.length : Int))))))], stab [], 0⟩ ?_ ?_
 ·
  refine q1 (vp0 a0) ?_
  refine q1 (vi a0.Op) ?_
  refine q1 (vp0 a1) ?_
  refine q1 (vi a1.Op) ?_
  refine q1 (vb (a0.Op != a1.Op)) ?_
  refine q1 (vb (a0.Op != a1.Op)) ?_
  by_cases hg1 : (a0.Op != a1.Op) = true
  ·
   refine qX (a0.Op != a1.Op) (by rw [hg1]; decide) ?_
   refine qX (a0.Op != a1.Op) (by rw [hg1]; decide) ?_
   refine qX (a0.Op != a1.Op) (by rw [hg1]; decide) ?_
   refine qX (a0.Op != a1.Op) (by rw [hg1]; decide) ?_
   refine qX (a0.Op != a1.Op) (by rw [hg1]; decide) ?_
   refine step (v := vb true) (st_pickT (b := (a0.Op != a1.Op)) rfl hg1 rfl) ?_
   refine q1 (vb true) ?_
   refine qX true (by decide) ?_
   refine qX true (by decide) ?_
   refine qX true (by decide) ?_
   refine qX true (by decide) ?_
   refine qX true (by decide) ?_
   refine step (v := vb true) (st_pickT (b := true) rfl rfl rfl) ?_
   refine q1 (vb true) ?_
   refine qX true (by decide) ?_
   refine qX true (by decide) ?_
   refine qX true (by decide) ?_
   refine qX true (by decide) ?_
   refine qX true (by decide) ?_
   refine qX true (by decide) ?_
   refine qX true (by decide) ?_
   refine step (v := vb true) (st_pickT (b := true) rfl rfl rfl) ?_
   exact RunOps.nil' (nm [] ⟨.d _, .d _, .eq (by first | (simp [hg1]; done) | (simp_all; done) | grind), trivial⟩ trivial)
  ·
   refine qG (a0.Op != a1.Op) (Bool.eq_false_iff.2 hg1) ?_
   refine q1 (.d (.cptr (some 4) (uapi_Pol a0) 1)) ?_
   refine qG (a0.Op != a1.Op) (Bool.eq_false_iff.2 hg1) ?_
   refine q1 (vi a0.F) ?_
   refine qG (a0.Op != a1.Op) (Bool.eq_false_iff.2 hg1) ?_
   refine q1 (.d (.cptr (some 4) (uapi_Pol a1) 1)) ?_
   refine qG (a0.Op != a1.Op) (Bool.eq_false_iff.2 hg1) ?_
   refine q1 (vi a1.F) ?_
   refine qG (a0.Op != a1.Op) (Bool.eq_false_iff.2 hg1) ?_
   refine q1 (vb (a0.F != a1.F)) ?_
   refine step (v := vb (a0.F != a1.F)) (st_pickF (b := (a0.Op != a1.Op)) rfl hg1 rfl) ?_
   refine q1 (vb (a0.F != a1.F)) ?_
   by_cases hg2 : (a0.F != a1.F) = true
   ·
    refine qX (a0.F != a1.F) (by rw [hg2]; decide) ?_
    refine qX (a0.F != a1.F) (by rw [hg2]; decide) ?_
    refine qX (a0.F != a1.F) (by rw [hg2]; decide) ?_
    refine qX (a0.F != a1.F) (by rw [hg2]; decide) ?_
    refine qX (a0.F != a1.F) (by rw [hg2]; decide) ?_
    refine step (v := vb true) (st_pickT (b := (a0.F != a1.F)) rfl hg2 rfl) ?_
    refine q1 (vb true) ?_
    refine qX true (by decide) ?_
    refine qX true (by decide) ?_
    refine qX true (by decide) ?_
    refine qX true (by decide) ?_
    refine qX true (by decide) ?_
    refine qX true (by decide) ?_
    refine qX true (by decide) ?_
    refine step (v := vb true) (st_pickT (b := true) rfl rfl rfl) ?_
    exact RunOps.nil' (nm [] ⟨.d _, .d _, .eq (by first | (simp [hg1, hg2]; done) | (simp_all; done) | grind), trivial⟩ trivial)
   ·
    refine qG (a0.F != a1.F) (Bool.eq_false_iff.2 hg2) ?_
    refine q1 (.d (.cptr (some 4) (uapi_Pol a0) 2)) ?_
    refine qG (a0.F != a1.F) (Bool.eq_false_iff.2 hg2) ?_
    refine q1 (vh a0.N) ?_
    refine qG (a0.F != a1.F) (Bool.eq_false_iff.2 hg2) ?_
    refine q1 (.d (.cptr (some 4) (uapi_Pol a1) 2)) ?_
    refine qG (a0.F != a1.F) (Bool.eq_false_iff.2 hg2) ?_
    refine q1 (vh a1.N) ?_
    refine qG (a0.F != a1.F) (Bool.eq_false_iff.2 hg2) ?_
    refine q1 (vb (a0.N != a1.N)) ?_
    refine step (v := vb (a0.N != a1.N)) (st_pickF (b := (a0.F != a1.F)) rfl hg2 rfl) ?_
    refine q1 (vb (a0.N != a1.N)) ?_
    by_cases hg3 : (a0.N != a1.N) = true
    ·
     refine qX (a0.N != a1.N) (by rw [hg3]; decide) ?_
     refine qX (a0.N != a1.N) (by rw [hg3]; decide) ?_
     refine qX (a0.N != a1.N) (by rw [hg3]; decide) ?_
     refine qX (a0.N != a1.N) (by rw [hg3]; decide) ?_
     refine qX (a0.N != a1.N) (by rw [hg3]; decide) ?_
     refine qX (a0.N != a1.N) (by rw [hg3]; decide) ?_
     refine qX (a0.N != a1.N) (by rw [hg3]; decide) ?_
     refine step (v := vb true) (st_pickT (b := (a0.N != a1.N)) rfl hg3 rfl) ?_
     exact RunOps.nil' (nm [] ⟨.d _, .d _, .eq (by first | (simp [hg1, hg2, hg3]; done) | (simp_all; done) | grind), trivial⟩ trivial)
    ·
     refine qG (a0.N != a1.N) (Bool.eq_false_iff.2 hg3) ?_
     refine q1 (.d (.cptr (some 4) (uapi_Pol a0) 3)) ?_
     refine qG (a0.N != a1.N) (Bool.eq_false_iff.2 hg3) ?_
     refine q1 (vl0 a0.Kids) ?_
     refine qG (a0.N != a1.N) (Bool.eq_false_iff.2 hg3) ?_
     refine step (v := vi (a0.Kids.length : Int)) (st_len (xs := a0.Kids) (e := eapi_Pol) rfl) ?_
     refine qG (a0.N != a1.N) (Bool.eq_false_iff.2 hg3) ?_
     refine q1 (.d (.cptr (some 4) (uapi_Pol a1) 3)) ?_
     refine qG (a0.N != a1.N) (Bool.eq_false_iff.2 hg3) ?_
     refine q1 (vl0 a1.Kids) ?_
     refine qG (a0.N != a1.N) (Bool.eq_false_iff.2 hg3) ?_
     refine step (v := vi (a1.Kids.length : Int)) (st_len (xs := a1.Kids) (e := eapi_Pol) rfl) ?_
     refine qG (a0.N != a1.N) (Bool.eq_false_iff.2 hg3) ?_
     refine q1 (vb ((a0.Kids.length : Int) != (a1.Kids.length : Int))) ?_
     refine step (v := vb ((a0.Kids.length : Int) != (a1.Kids.length : Int))) (st_pickF (b := (a0.N != a1.N)) rfl hg3 rfl) ?_
     exact RunOps.nil' (nm [] ⟨.d _, .d _, .eq (by first | (simp [hg1, hg2, hg3]; done) | (simp_all; done) | grind), trivial⟩ trivial)
 by_cases hc4 : ((a0.Op != a1.Op) || ((a0.F != a1.F) || ((a0.N != a1.N) || ((a0.Kids.length : Int) != (a1.Kids.length : Int))))) = true
 ·
  replace h := iteT hc4 h
  refine NWp.condT (t := ((a0.Op != a1.Op) || ((a0.F != a1.F) || ((a0.N != a1.N) || ((a0.Kids.length : Int) != (a1.Kids.length : Int)))))) rfl hc4 ?_
  refine NWp.opsJ ⟨tab [(4, vb false)], stab [], 0⟩ ?_ ?_
  ·
   refine q1 (vb false) ?_
   exact nR []
  have hh := Option.some.inj h
  subst hh
  refine NWp.ret ?_
  show FQ _ _ _ _
  exact FQ.mk1 (.inr rfl) (res_t (v := vb false) rfl rfl) (RV.d trivial)
 ·
  replace h := iteF hc4 h
  refine NWp.condF (t := ((a0.Op != a1.Op) || ((a0.F != a1.F) || ((a0.N != a1.N) || ((a0.Kids.length : Int) != (a1.Kids.length : Int)))))) rfl hc4 ?_
  refine NWp.skip ?_
  refine NWp.seq ?_
  refine NWp.opsJ ⟨tab [(2, vp0 a0), (3, vp0 a1), (5, vi 0)], stab [], 0⟩ ?_ ?_
  ·
   refine q1 (vi 0) ?_
   exact nR []
  obtain ⟨q15, hl, h⟩ := bindE h
  refine NWp.block ?_
  refine loop_forR (cntU (a0.Kids.length : Int)) (fun (i5 : Int) (qq : Unit) => ⟨tab [(2, vp0 a0), (3, vp0 a1), (5, vi i5)], stab [], 0⟩) 0 (fun (qq : Unit) => ⟨tab [], stab [], 0⟩) Low low_step (r := r) hl (by unfold Low; omega) ?_ ?_ ?_ ?_
  ·
   rintro i5 ⟨⟩ xr10 hinv8 hgo7 h
   show NWp _ _ _ _ _ ⟨tab [(2, vp0 a0), (3, vp0 a1), (5, vi i5)], stab [], 0⟩
   have hc9 : decide (i5 < (a0.Kids.length : Int)) = true := decide_eq_true hgo7
   refine NWp.seq ?_
   refine NWp.opsJ ⟨tab [(2, vp0 a0), (3, vp0 a1), (5, vi i5), (37, vi (a0.Kids.length : Int)), (38, vb (decide (i5 < (a0.Kids.length : Int))))], stab [], 0⟩ ?_ ?_
   ·
    refine q1 (vi i5) ?_
    refine q1 (.d (.cptr (some 4) (uapi_Pol a0) 3)) ?_
    refine q1 (vl0 a0.Kids) ?_
    refine step (v := vi (a0.Kids.length : Int)) (st_len (xs := a0.Kids) (e := eapi_Pol) rfl) ?_
    refine q1 (vb (decide (i5 < (a0.Kids.length : Int)))) ?_
    exact nR []
   refine NWp.rng 37 rfl fun hB6 => ?_
   refine NWp.condT (t := decide (i5 < (a0.Kids.length : Int))) rfl hc9 ?_
   refine NWp.skip ?_
   refine NWp.seq ?_
   refine NWp.block ?_
   obtain ⟨x11, hx11, h⟩ := bindE h
   obtain ⟨x12, hx12, h⟩ := bindE h
   obtain ⟨r13, hr13, h⟩ := bindE h
   refine NWp.opsJ ⟨tab [(2, vp0 a0), (3, vp0 a1), (5, vi i5), (52, vb (!r13))], stab [], 0⟩ ?_ ?_
   ·
    refine q1 (.d (.cptr (some 4) (uapi_Pol a0) 3)) ?_
    refine q1 (vl0 a0.Kids) ?_
    refine q1 (vi i5) ?_
    refine step (v := vp0 x11) (st_iaddrU (xs := a0.Kids) (e := eapi_Pol) hx11 rfl rfl (eu_api_Pol _)) ?_
    refine q1 (vs0 x11) ?_
    refine q1 (.d (.cptr (some 4) (uapi_Pol a1) 3)) ?_
    refine q1 (vl0 a1.Kids) ?_
    refine q1 (vi i5) ?_
    refine step (v := vp0 x12) (st_iaddrU (xs := a1.Kids) (e := eapi_Pol) hx12 rfl rfl (eu_api_Pol _)) ?_
    refine q1 (vs0 x12) ?_
    refine stepC (r := .bool r13) (ArgsOk.dt (ArgsOk.dt ArgsOk.nil')) (hself _ _ _ hr13) ?_
    refine q1 (vb (!r13)) ?_
    exact nR []
   by_cases hc14 : (!r13) = true
   ·
    replace h := iteT hc14 h
    refine NWp.condT (t := (!r13)) rfl hc14 ?_
    refine NWp.opsJ ⟨tab [(4, vb false)], stab [], 0⟩ ?_ ?_
    ·
     refine q1 (vb false) ?_
     exact nR []
    obtain ⟨r15, kr15, hr⟩ := mapE (o := some false) (g := Br.ret) h
    subst hr
    have h := kr15
    have hh := Option.some.inj h
    subst hh
    refine NWp.ret ?_
    refine And.intro (fun hn => nomatch hn) ?_
    intro hq
    have hq := hq.symm
    subst hq
    show FQ _ _ _ _
    exact FQ.mk1 (.inr rfl) (res_t (v := vb false) rfl rfl) (RV.d trivial)
   ·
    replace h := iteF hc14 h
    refine NWp.condF (t := (!r13)) rfl hc14 ?_
    refine NWp.skip ?_
    have hh := Option.some.inj h
    subst hh
    refine NWp.opsE ⟨tab [(2, vp0 a0), (3, vp0 a1), (5, vi (i5 + 1))], stab [], 0⟩ ?_ ?_
    ·
     refine q1 (vi i5) ?_
     refine step (v := vi (i5 + 1)) (st_inc (inc_ok hinv8 hgo7 hB6) rfl rfl) ?_
     refine q1 (vi (i5 + 1)) ?_
     exact nR []
    exact And.intro rfl rfl
  ·
   rintro i5 ⟨⟩ hinv8 hgo7
   show NWp _ _ _ _ _ ⟨tab [(2, vp0 a0), (3, vp0 a1), (5, vi i5)], stab [], 0⟩
   have hc9 : ¬ (decide (i5 < (a0.Kids.length : Int)) = true) := fun hq => hgo7 (of_decide_eq_true hq)
   refine NWp.seq ?_
   refine NWp.opsJ ⟨tab [(2, vp0 a0), (3, vp0 a1), (5, vi i5), (38, vb (decide (i5 < (a0.Kids.length : Int))))], stab [], 0⟩ ?_ ?_
   ·
    refine q1 (vi i5) ?_
    refine q1 (.d (.cptr (some 4) (uapi_Pol a0) 3)) ?_
    refine q1 (vl0 a0.Kids) ?_
    refine step (v := vi (a0.Kids.length : Int)) (st_len (xs := a0.Kids) (e := eapi_Pol) rfl) ?_
    refine q1 (vb (decide (i5 < (a0.Kids.length : Int)))) ?_
    exact nR []
   refine NWp.condF (t := decide (i5 < (a0.Kids.length : Int))) rfl hc9 ?_
   refine NWp.norm (s0 := ⟨tab [], stab [], 0⟩) (nr []) ?_
   refine NWp.exit ?_
   exact And.intro rfl rfl
  ·
   intro r' hq
   subst hq
   exact Option.some.inj h
  rintro ⟨⟩ rfl
  refine NWp.opsJ ⟨tab [(4, vb true)], stab [], 0⟩ ?_ ?_
  ·
   refine q1 (vb true) ?_
   exact nR []
  have hh := Option.some.inj h
  subst hh
  refine NWp.ret ?_
  show FQ _ _ _ _
  exact FQ.mk1 (.inr rfl) (res_t (v := vb true) rfl rfl) (RV.d trivial)

theorem c_ref05_SamePol_f : ∀ (k : Nat) (a0 : api_Pol) (a1 : api_Pol) (r : Bool), ref05_SamePol_f k a0 a1 = some r → PCall Try.prog 41 [uapi_Pol a0, uapi_Pol a1] (.bool r)
 | 0, _, _, _, h => by cases h
 | k + 1, _, _, _, h => c_ref05_SamePol_s (c_ref05_SamePol_f k) h

theorem c_ref05_SamePol {a0 : api_Pol} {a1 : api_Pol} {r : Bool} (h : ref05_SamePol a0 a1 = some r) : PCall Try.prog 41 [uapi_Pol a0, uapi_Pol a1] (.bool r) := c_ref05_SamePol_f FUEL _ _ _ h

theorem c_trim_Trimmed {a0 : api_Pol} {r : Bool} (h : trim_Trimmed a0 = some r) : PCall Try.prog 44 [uapi_Pol a0] (.bool r) := by
 refine PCall.introN ok44 (show 1 ≤ 7 by decide) ?_
 refine NWp.norm (s0 := ⟨tab [(0, vs0 a0)], stab [], 0⟩) (nr []) ?_
 refine NWp.opsJ ⟨tab [(1, vp0 a0)], stab [], 0⟩ ?_ ?_
 ·
  refine q1 (vp0 a0) ?_
  refine q1 (vb false) ?_
  exact nR []
 obtain ⟨r1, hr1, h⟩ := bindE h
 obtain ⟨r2, hr2, h⟩ := bindE h
 refine NWp.opsJ ⟨tab [(2, vb r2)], stab [], 0⟩ ?_ ?_
 ·
  refine q1 (vs0 a0) ?_
  refine q1 (vs0 a0) ?_
  refine stepC (r := uapi_Pol r1) (ArgsOk.dt ArgsOk.nil') (c_trim_Trim hr1) ?_
  refine stepC (r := .bool r2) (ArgsOk.dt (ArgsOk.dt ArgsOk.nil')) (c_trim_same hr2) ?_
  refine q1 (vb r2) ?_
  exact nR []
 have hh := Option.some.inj h
 subst hh
 refine NWp.ret ?_
 show FQ _ _ _ _
 exact FQ.mk1 (.inr rfl) (res_t (v := vb r2) rfl rfl) (RV.d trivial)

theorem c_law28_awake  {r : Bool} (h : law28_awake  = some r) : PCall Try.prog 35 [] (.bool r) := by
 refine PCall.introN ok35 (show 0 ≤ 26 by decide) ?_
 refine NWp.norm (s0 := ⟨tab [], stab [], 0⟩) (nr []) ?_
 refine NWp.opsJ ⟨tab [], stab [], 0⟩ ?_ ?_
 ·
  refine q1 (vb false) ?_
  exact nR []
 obtain ⟨r1, hr1, h⟩ := bindE h
 obtain ⟨r2, hr2, h⟩ := bindE h
 obtain ⟨r3, hr3, h⟩ := bindE h
 obtain ⟨r4, hr4, h⟩ := bindE h
 obtain ⟨r5, hr5, h⟩ := bindE h
 refine NWp.opsJ ⟨tab [(1, .ptr 0 0 0)], stab [(0, bv1 r5)], 1⟩ ?_ ?_
 ·
  refine step (v := vs0 (api_Pol.mk 1 0 0 [])) (st_build (ds := [.int .i64 1, .int .i64 0, .int .u16 0, eL (some 4) eapi_Pol []]) rfl) ?_
  refine stepC (r := uapi_Pol r1) (ArgsOk.dt ArgsOk.nil') (c_law28_put hr1) ?_
  refine stepC (r := uapi_Pol r2) (ArgsOk.dt ArgsOk.nil') (c_law28_put hr2) ?_
  refine step (v := vl0 ([(api_Pol.mk 1 0 0 []), r1, r2] : List api_Pol)) (st_eq rfl (by simp [eL, eu_api_Pol])) ?_
  refine stepC (r := uapi_Pol r3) (ArgsOk.dt ArgsOk.nil') (c_law07_Seq hr3) ?_
  refine step (v := vs0 (api_Pol.mk 0 0 0 [])) (st_build (ds := [.int .i64 0, .int .i64 0, .int .u16 0, eL (some 4) eapi_Pol []]) rfl) ?_
  refine step (v := vl0 ([r3, (api_Pol.mk 0 0 0 [])] : List api_Pol)) (st_eq rfl (by simp [eL, eu_api_Pol])) ?_
  refine stepC (r := uapi_Pol r4) (ArgsOk.dt ArgsOk.nil') (c_law07_Sum hr4) ?_
  refine stepC (r := uapi_Pol r5) (ArgsOk.dt ArgsOk.nil') (c_trim_Trim hr5) ?_
  refine step (v := .ptr 0 0 0) (σ' := (upd (stab []) 0 (some (bv0)))) (n' := 1) rfl ?_
  refine step (v := V.undef) (σ' := (upd (upd (stab []) 0 (some (bv0))) 0 (some (bv1 r5)))) (n' := 1) rfl ?_
  exact nR [0]
 obtain ⟨r6, hr6, h⟩ := bindE h
 obtain ⟨y12, hv, h⟩ := bindE h
 refine NWp.opsJ ⟨tab [(0, vb y12)], stab [], 0⟩ ?_ ?_
 ·
  refine step (v := vs0 r5) (st_ldV (ds := [.int .i64 r5.Op, .int .i64 r5.F, .int .u16 r5.N, eL (some 4) eapi_Pol r5.Kids]) rfl rfl (show 4 ≤ 4 by decide) rfl) ?_
  refine stepC (r := uapi_Pol r2) (ArgsOk.dt ArgsOk.nil') (c_law28_put hr2) ?_
  refine stepC (r := .bool r6) (ArgsOk.dt (ArgsOk.dt ArgsOk.nil')) (c_ref05_SamePol hr6) ?_
  refine q1 (vb r6) ?_
  by_cases hg7 : r6 = true
  ·
   replace hv := iteT hg7 hv
   obtain ⟨r8, hr8, hv⟩ := bindE hv
   refine qG r6 hg7 ?_
   refine step (v := vs0 r5) (st_ldV (ds := [.int .i64 r5.Op, .int .i64 r5.F, .int .u16 r5.N, eL (some 4) eapi_Pol r5.Kids]) rfl rfl (show 4 ≤ 4 by decide) rfl) ?_
   refine qG r6 hg7 ?_
   refine stepC (r := .bool r8) (ArgsOk.dt ArgsOk.nil') (c_trim_Trimmed hr8) ?_
   refine step (v := vb r8) (st_pickT (b := r6) rfl hg7 rfl) ?_
   refine q1 (vb r8) ?_
   by_cases hg9 : r8 = true
   ·
    replace hv := iteT hg9 hv
    obtain ⟨r10, hr10, hv⟩ := bindE hv
    obtain ⟨r11, hr11, hv⟩ := bindE hv
    refine qG r8 hg9 ?_
    refine step (v := vs0 r5) (st_ldV (ds := [.int .i64 r5.Op, .int .i64 r5.F, .int .u16 r5.N, eL (some 4) eapi_Pol r5.Kids]) rfl rfl (show 4 ≤ 4 by decide) rfl) ?_
    refine qG r8 hg9 ?_
    refine step (v := vs0 r5) (st_ldV (ds := [.int .i64 r5.Op, .int .i64 r5.F, .int .u16 r5.N, eL (some 4) eapi_Pol r5.Kids]) rfl rfl (show 4 ≤ 4 by decide) rfl) ?_
    refine qG r8 hg9 ?_
    refine step (v := vl0 ([r5, r5] : List api_Pol)) (st_eq rfl (by simp [eL, eu_api_Pol])) ?_
    refine qG r8 hg9 ?_
    refine stepC (r := uapi_Pol r10) (ArgsOk.dt ArgsOk.nil') (c_law07_Sum hr10) ?_
    refine qG r8 hg9 ?_
    refine stepC (r := .bool r11) (ArgsOk.dt ArgsOk.nil') (c_trim_Trimmed hr11) ?_
    refine qG r8 hg9 ?_
    refine q1 (vb (!r11)) ?_
    refine step (v := vb (!r11)) (st_pickT (b := r8) rfl hg9 rfl) ?_
    refine q1 (vb (!r11)) ?_
    have hh := Option.some.inj hv
    subst hh
    exact nR []
   ·
    replace hv := iteF hg9 hv
    refine qX r8 hg9 ?_
    refine qX r8 hg9 ?_
    refine qX r8 hg9 ?_
    refine qX r8 hg9 ?_
    refine qX r8 hg9 ?_
    refine qX r8 hg9 ?_
    refine step (v := vb false) (st_pickF (b := r8) rfl hg9 rfl) ?_
    refine q1 (vb false) ?_
    have hh := Option.some.inj hv
    subst hh
    exact nR []
  ·
   replace hv := iteF hg7 hv
   refine qX r6 hg7 ?_
   refine qX r6 hg7 ?_
   refine step (v := vb false) (st_pickF (b := r6) rfl hg7 rfl) ?_
   refine q1 (vb false) ?_
   refine qX false (by decide) ?_
   refine qX false (by decide) ?_
   refine qX false (by decide) ?_
   refine qX false (by decide) ?_
   refine qX false (by decide) ?_
   refine qX false (by decide) ?_
   refine step (v := vb false) (st_pickF (b := false) rfl (by decide) rfl) ?_
   refine q1 (vb false) ?_
   have hh := Option.some.inj hv
   subst hh
   exact nR []
 have hh := Option.some.inj h
 subst hh
 refine NWp.ret ?_
 show FQ _ _ _ _
 exact FQ.mk1 (.inr rfl) (res_t (v := vb y12) rfl rfl) (RV.d trivial)


end Go.AM
