import Derived.Test.YtkgegocfjalcbaaTpW2
/-  What they are in the program: walks. -/
set_option linter.unusedVariables false
set_option linter.unusedSimpArgs false
namespace Go.AM
open Go Go.RowKit Go.Proofs

attribute [local irreducible] RunOps

theorem c_ref28_trim_s {self : api_Pol → Option api_Pol} (hself : ∀ (a0 : api_Pol) (r : api_Pol), self a0 = some r → PCall Try.prog 78 [uapi_Pol a0] (uapi_Pol r)) {a0 : api_Pol} {r : api_Pol} (h : ref28_trim_s self a0 = some r) : PCall Try.prog 78 [uapi_Pol a0] (uapi_Pol r) := by
 refine PCall.introN ok78 (show 1 ≤ 34 by decide) ?_
 refine NWp.norm (s0 := ⟨tab [(0, vs0 a0)], stab [], 0⟩) (nr []) ?_
 refine NWp.opsJ ⟨tab [(1, .ptr 0 0 0), (2, .ptr 1 0 0)], stab [(0, bv1 a0), (1, bv0)], 2⟩ ?_ ?_
 ·
  refine step (v := .ptr 0 0 0) (σ' := (upd (stab []) 0 (some (bv1 a0)))) (n' := 1) rfl ?_
  refine step (v := .ptr 1 0 0) (σ' := (upd (upd (stab []) 0 (some (bv1 a0))) 1 (some (bv0)))) (n' := 2) rfl ?_
  exact nR [0, 1]
 refine NWp.opsJ ⟨tab [(1, .ptr 0 0 0), (2, .ptr 1 0 0), (3, .d (.nils))], stab [(0, bv1 a0), (1, bv0)], 2⟩ ?_ ?_
 ·
  refine q1 (.d (.nils)) ?_
  exact nR [0, 1]
 refine NWp.seq ?_
 refine NWp.opsJ ⟨tab [(1, .ptr 0 0 0), (2, .ptr 1 0 0), (3, .d (.nils)), (4, vi 0)], stab [(0, bv1 a0), (1, bv0)], 2⟩ ?_ ?_
 ·
  refine q1 (vi 0) ?_
  exact nR [0, 1]
 obtain ⟨z11, hl, h⟩ := bindE h
 refine NWp.norm (s0 := ⟨tab [(1, .ptr 0 0 0), (2, .ptr 1 0 0), (3, .loc 2 0 (([] : List api_Pol).length)), (4, vi 0)], stab [(0, bv1 a0), (1, bv0), (2, .lst false (some 4) (List.map eapi_Pol ([] : List api_Pol)))], 3⟩) (Norm.trans (s2 := ⟨tab [(1, .ptr 0 0 0), (2, .ptr 1 0 0), (3, .loc 2 0 (([] : List api_Pol).length)), (4, vi 0)], stab [(0, bv1 a0), (1, bv0), (2, .lst false (some 4) (List.map eapi_Pol ([] : List api_Pol)))], 3⟩) (Norm.nil1 3 false (some 4) rfl) (nr [0, 1, 2])) ?_
 refine NWp.block ?_
 refine loop_forO (cntU (a0.Kids.length : Int)) (fun (i2 : Int) (qq : (List api_Pol)) => ⟨tab [(1, .ptr 0 0 0), (2, .ptr 1 0 0), (3, .loc 2 0 qq.length), (4, vi i2)], stab [(0, bv1 a0), (1, bv0), (2, .lst false (some 4) (List.map eapi_Pol qq))], 3⟩) 0 (fun (qq : (List api_Pol)) => ⟨tab [(1, .ptr 0 0 0), (2, .ptr 1 0 0), (3, vl0 qq)], stab [(0, bv1 a0), (1, bv0)], 2⟩) Low low_step hl (by unfold Low; omega) ?_ ?_ ?_
 ·
  rintro i2 l1 xr7 hinv5 hgo4 h
  show NWp _ _ _ _ _ ⟨tab [(1, .ptr 0 0 0), (2, .ptr 1 0 0), (3, .loc 2 0 l1.length), (4, vi i2)], stab [(0, bv1 a0), (1, bv0), (2, .lst false (some 4) (List.map eapi_Pol l1))], 3⟩
  have hc6 : decide (i2 < (a0.Kids.length : Int)) = true := decide_eq_true hgo4
  refine NWp.seq ?_
  refine NWp.opsJ ⟨tab [(1, .ptr 0 0 0), (2, .ptr 1 0 0), (3, .loc 2 0 l1.length), (4, vi i2), (10, vi (a0.Kids.length : Int)), (11, vb (decide (i2 < (a0.Kids.length : Int))))], stab [(0, bv1 a0), (1, bv0), (2, .lst false (some 4) (List.map eapi_Pol l1))], 3⟩ ?_ ?_
  ·
   refine q1 (vi i2) ?_
   refine q1 (.ptr 0 0 3) ?_
   refine q1 (vl0 a0.Kids) ?_
   refine step (v := vi (a0.Kids.length : Int)) (st_len (xs := a0.Kids) (e := eapi_Pol) rfl) ?_
   refine q1 (vb (decide (i2 < (a0.Kids.length : Int)))) ?_
   exact nR [0, 1, 2]
  refine NWp.rng 10 rfl fun hB3 => ?_
  refine NWp.condT (t := decide (i2 < (a0.Kids.length : Int))) rfl hc6 ?_
  refine NWp.skip ?_
  refine NWp.seq ?_
  refine NWp.block ?_
  obtain ⟨x8, hx8, h⟩ := bindE h
  obtain ⟨r9, hr9, h⟩ := bindE h
  obtain ⟨l10, hl10, h⟩ := bindE h
  refine NWp.opsE ⟨tab [(1, .ptr 0 0 0), (2, .ptr 1 0 0), (3, .loc 2 0 l10.length), (4, vi i2)], stab [(0, bv1 a0), (1, bv0), (2, .lst false (some 4) (List.map eapi_Pol l10))], 3⟩ ?_ ?_
  ·
   refine q1 (.loc 2 0 l1.length) ?_
   refine q1 (.ptr 0 0 3) ?_
   refine q1 (vl0 a0.Kids) ?_
   refine q1 (vi i2) ?_
   refine step (v := vp0 x8) (st_iaddrU (xs := a0.Kids) (e := eapi_Pol) hx8 rfl rfl (eu_api_Pol _)) ?_
   refine q1 (vs0 x8) ?_
   refine stepC (r := uapi_Pol r9) (ArgsOk.dt ArgsOk.nil') (hself _ _ hr9) ?_
   refine step (v := vl0 ([r9] : List api_Pol)) (st_eq rfl (by simp [eL, eu_api_Pol])) ?_
   refine step (v := .loc 3 0 l10.length) (σ' := (upd (upd (stab [(0, bv1 a0), (1, bv0), (2, .lst false (some 4) (List.map eapi_Pol l1))]) 2 none) 3 (some (.lst false (some 4) (List.map eapi_Pol l10))))) (n' := 4) (st_app (xs := l1) (ys := ([r9] : List api_Pol)) (e := eapi_Pol) hl10 rfl rfl rfl (src_v (xs := ([r9] : List api_Pol)) (e := eapi_Pol) rfl)) ?_
   refine q1 (.loc 3 0 l10.length) ?_
   exact nR [0, 1, 3]
  have hh := Option.some.inj h
  subst hh
  refine NWp.opsE ⟨tab [(1, .ptr 0 0 0), (2, .ptr 1 0 0), (3, .loc 2 0 l10.length), (4, vi (i2 + 1))], stab [(0, bv1 a0), (1, bv0), (2, .lst false (some 4) (List.map eapi_Pol l10))], 3⟩ ?_ ?_
  ·
   refine q1 (vi i2) ?_
   refine step (v := vi (i2 + 1)) (st_inc (inc_ok hinv5 hgo4 hB3) rfl rfl) ?_
   refine q1 (vi (i2 + 1)) ?_
   exact nR [0, 1, 2]
  exact And.intro rfl rfl
 ·
  rintro i2 l1 hinv5 hgo4
  show NWp _ _ _ _ _ ⟨tab [(1, .ptr 0 0 0), (2, .ptr 1 0 0), (3, .loc 2 0 l1.length), (4, vi i2)], stab [(0, bv1 a0), (1, bv0), (2, .lst false (some 4) (List.map eapi_Pol l1))], 3⟩
  have hc6 : ¬ (decide (i2 < (a0.Kids.length : Int)) = true) := fun hq => hgo4 (of_decide_eq_true hq)
  refine NWp.seq ?_
  refine NWp.opsJ ⟨tab [(1, .ptr 0 0 0), (2, .ptr 1 0 0), (3, .loc 2 0 l1.length), (4, vi i2), (11, vb (decide (i2 < (a0.Kids.length : Int))))], stab [(0, bv1 a0), (1, bv0), (2, .lst false (some 4) (List.map eapi_Pol l1))], 3⟩ ?_ ?_
  ·
   refine q1 (vi i2) ?_
   refine q1 (.ptr 0 0 3) ?_
   refine q1 (vl0 a0.Kids) ?_
   refine step (v := vi (a0.Kids.length : Int)) (st_len (xs := a0.Kids) (e := eapi_Pol) rfl) ?_
   refine q1 (vb (decide (i2 < (a0.Kids.length : Int)))) ?_
   exact nR [0, 1, 2]
  refine NWp.condF (t := decide (i2 < (a0.Kids.length : Int))) rfl hc6 ?_
  refine NWp.norm (s0 := ⟨tab [(1, .ptr 0 0 0), (2, .ptr 1 0 0), (3, vl0 l1)], stab [(0, bv1 a0), (1, bv0)], 2⟩) (Norm.trans (s2 := ⟨tab [(1, .ptr 0 0 0), (2, .ptr 1 0 0), (3, vl0 l1)], stab [(0, bv1 a0), (1, bv0)], 2⟩) (Norm.imm1 [3] (id := 2) (m := false) (k := (some 4)) (xs := l1) (e := eapi_Pol) rfl (fun t ht => by cases ht with | head => exact ⟨_, rfl, rfl⟩ | tail _ h => cases h)) (nr [0, 1])) ?_
  refine NWp.exit ?_
  exact And.intro rfl rfl
 refine NWp.opsJ ⟨tab [(1, .ptr 0 0 0), (2, .ptr 1 0 0)], stab [(0, .var [vi a0.Op, vi a0.F, vh a0.N, vl0 z11]), (1, bv0)], 2⟩ ?_ ?_
 ·
  refine q1 (vl0 z11) ?_
  refine q1 (.ptr 0 0 3) ?_
  refine step (v := V.undef) (σ' := (upd (stab [(0, bv1 a0), (1, bv0)]) 0 (some (.var [vi a0.Op, vi a0.F, vh a0.N, vl0 z11])))) (n' := 2) rfl ?_
  exact nR [0, 1]
 obtain ⟨q17, hl, h⟩ := bindE h
 refine NWp.norm (s0 := ⟨tab [(1, .ptr 0 0 0), (2, .ptr 1 0 0)], stab [(0, .var [vi ((api_Pol.mk a0.Op a0.F a0.N z11).Op), vi ((api_Pol.mk a0.Op a0.F a0.N z11).F), vh ((api_Pol.mk a0.Op a0.F a0.N z11).N), vl0 ((api_Pol.mk a0.Op a0.F a0.N z11).Kids)]), (1, bv0)], 2⟩) (nr [0, 1]) ?_
 refine NWp.block ?_
 refine loop_whR (fun (qq : api_Pol) => ⟨tab [(1, .ptr 0 0 0), (2, .ptr 1 0 0)], stab [(0, bv1 qq), (1, bv0)], 2⟩) 2 (fun (qq : api_Pol) => ⟨tab [(2, .ptr 0 0 0)], stab [(0, bv0)], 1⟩) (r := r) hl ?_ ?_ ?_
 ·
  rintro y12 xr13 h
  show NWp _ _ _ _ _ ⟨tab [(1, .ptr 0 0 0), (2, .ptr 1 0 0)], stab [(0, bv1 y12), (1, bv0)], 2⟩
  refine NWp.block ?_
  obtain ⟨r14, hr14, h⟩ := bindE h
  refine NWp.opsJ ⟨tab [(1, .ptr 0 0 0), (2, .ptr 1 0 0), (5, .ptr 2 0 0), (6, vb r14.2)], stab [(0, bv1 y12), (1, bv0), (2, .var [vi r14.1.Op, vi r14.1.F, vh r14.1.N, vl0 r14.1.Kids])], 3⟩ ?_ ?_
  ·
   refine step (v := vs0 y12) (st_ldV (ds := [.int .i64 y12.Op, .int .i64 y12.F, .int .u16 y12.N, eL (some 4) eapi_Pol y12.Kids]) rfl rfl (show 4 ≤ 4 by decide) rfl) ?_
   refine stepC (r := .tup [uapi_Pol r14.1, .bool r14.2]) (ArgsOk.dt ArgsOk.nil') (c_ref28_once hr14) ?_
   refine q1 (.d (.tup [uapi_Pol r14.1, .bool r14.2])) ?_
   refine q1 (vs0 r14.1) ?_
   refine q1 (vb r14.2) ?_
   refine step (v := .ptr 2 0 0) (σ' := (upd (stab [(0, bv1 y12), (1, bv0)]) 2 (some (bv0)))) (n' := 3) rfl ?_
   refine step (v := V.undef) (σ' := (upd (upd (stab [(0, bv1 y12), (1, bv0)]) 2 (some (bv0))) 2 (some (.var [vi r14.1.Op, vi r14.1.F, vh r14.1.N, vl0 r14.1.Kids])))) (n' := 3) rfl ?_
   refine q1 (vb r14.2) ?_
   exact nR [0, 1, 2]
  refine NWp.seq ?_
  refine NWp.opsJ ⟨tab [(1, .ptr 0 0 0), (2, .ptr 1 0 0), (5, .ptr 2 0 0), (31, vb (!r14.2))], stab [(0, bv1 y12), (1, bv0), (2, .var [vi r14.1.Op, vi r14.1.F, vh r14.1.N, vl0 r14.1.Kids])], 3⟩ ?_ ?_
  ·
   refine q1 (vb r14.2) ?_
   refine q1 (vb (!r14.2)) ?_
   exact nR [0, 1, 2]
  by_cases hc15 : (!r14.2) = true
  ·
   replace h := iteT hc15 h
   refine NWp.condT (t := (!r14.2)) rfl hc15 ?_
   refine NWp.opsJ ⟨tab [(2, .ptr 0 0 0)], stab [(0, bv1 y12)], 1⟩ ?_ ?_
   ·
    refine step (v := vs0 y12) (st_ldV (ds := [.int .i64 y12.Op, .int .i64 y12.F, .int .u16 y12.N, eL (some 4) eapi_Pol y12.Kids]) rfl rfl (show 4 ≤ 4 by decide) rfl) ?_
    refine step (v := V.undef) (σ' := (upd (stab [(0, bv1 y12), (1, bv0), (2, .var [vi r14.1.Op, vi r14.1.F, vh r14.1.N, vl0 r14.1.Kids])]) 1 (some (bv1 y12)))) (n' := 3) rfl ?_
    exact nR [1]
   obtain ⟨r16, kr16, hr⟩ := mapE (o := some y12) (g := Br.ret) h
   subst hr
   have h := kr16
   have hh := Option.some.inj h
   subst hh
   refine NWp.ret ?_
   refine And.intro (fun hn => nomatch hn) ?_
   intro hq
   have hq := hq.symm
   subst hq
   show FQ _ _ _ _
   exact FQ.mk1 (.inr rfl) (res_cell (ds := [.int .i64 y12.Op, .int .i64 y12.F, .int .u16 y12.N, eL (some 4) eapi_Pol y12.Kids]) rfl rfl (show 4 ≤ 4 by decide) rfl rfl) (RV.d trivial)
  ·
   replace h := iteF hc15 h
   refine NWp.condF (t := (!r14.2)) rfl hc15 ?_
   refine NWp.skip ?_
   have hh := Option.some.inj h
   subst hh
   refine NWp.opsE ⟨tab [(1, .ptr 0 0 0), (2, .ptr 1 0 0)], stab [(0, .var [vi r14.1.Op, vi r14.1.F, vh r14.1.N, vl0 r14.1.Kids]), (1, bv0)], 2⟩ ?_ ?_
   ·
    refine step (v := vs0 r14.1) (st_ldV (ds := [.int .i64 r14.1.Op, .int .i64 r14.1.F, .int .u16 r14.1.N, eL (some 4) eapi_Pol r14.1.Kids]) rfl rfl (show 4 ≤ 4 by decide) rfl) ?_
    refine step (v := V.undef) (σ' := (upd (stab [(0, bv1 y12), (1, bv0), (2, .var [vi r14.1.Op, vi r14.1.F, vh r14.1.N, vl0 r14.1.Kids])]) 0 (some (.var [vi r14.1.Op, vi r14.1.F, vh r14.1.N, vl0 r14.1.Kids])))) (n' := 3) rfl ?_
    exact nR [0, 1]
   exact And.intro rfl rfl
 ·
  intro r' hq
  subst hq
  exact Option.some.inj h
 rintro z16 rfl
 have hh := Option.some.inj h
 subst hh
 show FQ _ _ _ _
 exact FQ.mk1 (.inl rfl) (res_cell (ds := [.int .i64 0, .int .i64 0, .int .u16 0, eL (some 4) eapi_Pol []]) rfl rfl (show 4 ≤ 4 by decide) rfl rfl) (RV.d trivial)

theorem c_ref28_trim_f : ∀ (k : Nat) (a0 : api_Pol) (r : api_Pol), ref28_trim_f k a0 = some r → PCall Try.prog 78 [uapi_Pol a0] (uapi_Pol r)
 | 0, _, _, h => by cases h
 | k + 1, _, _, h => c_ref28_trim_s (c_ref28_trim_f k) h

theorem c_ref28_trim {a0 : api_Pol} {r : api_Pol} (h : ref28_trim a0 = some r) : PCall Try.prog 78 [uapi_Pol a0] (uapi_Pol r) := c_ref28_trim_f FUEL _ _ h

theorem c_ref28_Trim {a0 : api_Pol} {r : api_Pol} (h : ref28_Trim a0 = some r) : PCall Try.prog 49 [uapi_Pol a0] (uapi_Pol r) := by
 refine PCall.introN ok49 (show 1 ≤ 9 by decide) ?_
 refine NWp.norm (s0 := ⟨tab [(0, vs0 a0)], stab [], 0⟩) (nr []) ?_
 refine NWp.opsJ ⟨tab [(1, vp0 a0), (2, .ptr 0 0 0)], stab [(0, bv0)], 1⟩ ?_ ?_
 ·
  refine q1 (vp0 a0) ?_
  refine step (v := .ptr 0 0 0) (σ' := (upd (stab []) 0 (some (bv0)))) (n' := 1) rfl ?_
  exact nR [0]
 refine NWp.seq ?_
 obtain ⟨r1, hr1, h⟩ := bindE h
 refine NWp.opsJ ⟨tab [(1, vp0 a0), (2, .ptr 0 0 0), (5, vb (!r1))], stab [(0, bv0)], 1⟩ ?_ ?_
 ·
  refine q1 (vs0 a0) ?_
  refine stepC (r := .bool r1) (ArgsOk.dt ArgsOk.nil') (c_ref07_Right hr1) ?_
  refine q1 (vb (!r1)) ?_
  exact nR [0]
 by_cases hc2 : (!r1) = true
 ·
  replace h := iteT hc2 h
  refine NWp.condT (t := (!r1)) rfl hc2 ?_
  refine NWp.opsJ ⟨tab [(2, .ptr 0 0 0)], stab [(0, bv1 a0)], 1⟩ ?_ ?_
  ·
   refine q1 (vs0 a0) ?_
   refine step (v := V.undef) (σ' := (upd (stab [(0, bv0)]) 0 (some (bv1 a0)))) (n' := 1) rfl ?_
   exact nR [0]
  have hh := Option.some.inj h
  subst hh
  refine NWp.ret ?_
  show FQ _ _ _ _
  exact FQ.mk1 (.inr rfl) (res_cell (ds := [.int .i64 a0.Op, .int .i64 a0.F, .int .u16 a0.N, eL (some 4) eapi_Pol a0.Kids]) rfl rfl (show 4 ≤ 4 by decide) rfl rfl) (RV.d trivial)
 ·
  replace h := iteF hc2 h
  refine NWp.condF (t := (!r1)) rfl hc2 ?_
  refine NWp.skip ?_
  obtain ⟨r3, hr3, h⟩ := bindE h
  refine NWp.opsJ ⟨tab [(2, .ptr 0 0 0)], stab [(0, bv1 r3)], 1⟩ ?_ ?_
  ·
   refine q1 (vs0 a0) ?_
   refine stepC (r := uapi_Pol r3) (ArgsOk.dt ArgsOk.nil') (c_ref28_trim hr3) ?_
   refine step (v := V.undef) (σ' := (upd (stab [(0, bv0)]) 0 (some (bv1 r3)))) (n' := 1) rfl ?_
   exact nR [0]
  have hh := Option.some.inj h
  subst hh
  refine NWp.ret ?_
  show FQ _ _ _ _
  exact FQ.mk1 (.inr rfl) (res_cell (ds := [.int .i64 r3.Op, .int .i64 r3.F, .int .u16 r3.N, eL (some 4) eapi_Pol r3.Kids]) rfl rfl (show 4 ≤ 4 by decide) rfl rfl) (RV.d trivial)

theorem c_trim_Program {a0 : api_Program} {r : (api_Program × Int)} (h : trim_Program a0 = some r) : PCall Try.prog 50 [eapi_Program a0] (.tup [eapi_Program r.1, .int .i64 r.2]) := by
 refine PCall.introN ok50 (show 1 ≤ 16 by decide) ?_
 refine NWp.norm (s0 := ⟨tab [(0, vs1 a0)], stab [], 0⟩) (nr []) ?_
 refine NWp.opsJ ⟨tab [(1, .ptr 0 0 0), (2, .ptr 1 0 0)], stab [(0, .var [vl3 a0.Init, vi a0.Pol.Op, vi a0.Pol.F, vh a0.Pol.N, vl0 a0.Pol.Kids, vl2 a0.Rules]), (1, bv4)], 2⟩ ?_ ?_
 ·
  refine step (v := .ptr 0 0 0) (σ' := (upd (stab []) 0 (some (.var [vl3 a0.Init, vi a0.Pol.Op, vi a0.Pol.F, vh a0.Pol.N, vl0 a0.Pol.Kids, vl2 a0.Rules])))) (n' := 1) rfl ?_
  refine step (v := .ptr 1 0 0) (σ' := (upd (upd (stab []) 0 (some (.var [vl3 a0.Init, vi a0.Pol.Op, vi a0.Pol.F, vh a0.Pol.N, vl0 a0.Pol.Kids, vl2 a0.Rules]))) 1 (some (bv4)))) (n' := 2) rfl ?_
  refine q1 (vi 0) ?_
  exact nR [0, 1]
 refine NWp.seq ?_
 obtain ⟨r1, hr1, h⟩ := bindE h
 refine NWp.opsJ ⟨tab [(1, .ptr 0 0 0), (2, .ptr 1 0 0), (4, vi r1)], stab [(0, .var [vl3 a0.Init, vi a0.Pol.Op, vi a0.Pol.F, vh a0.Pol.N, vl0 a0.Pol.Kids, vl2 a0.Rules]), (1, bv4)], 2⟩ ?_ ?_
 ·
  refine step (v := vs1 a0) (st_ldV (ds := [eL none (D.int .u16) a0.Init, .int .i64 a0.Pol.Op, .int .i64 a0.Pol.F, .int .u16 a0.Pol.N, eL (some 4) eapi_Pol a0.Pol.Kids, eL (some 3) eapi_Rule a0.Rules]) rfl rfl (show 6 ≤ 6 by decide) rfl) ?_
  refine stepC (r := .int .i64 r1) (ArgsOk.dt ArgsOk.nil') (c_syntax_Check hr1) ?_
  refine q1 (vi r1) ?_
  exact nR [0, 1]
 refine NWp.opsJ ⟨tab [(1, .ptr 0 0 0), (2, .ptr 1 0 0), (4, vi r1), (8, vb (r1 != 0))], stab [(0, .var [vl3 a0.Init, vi a0.Pol.Op, vi a0.Pol.F, vh a0.Pol.N, vl0 a0.Pol.Kids, vl2 a0.Rules]), (1, bv4)], 2⟩ ?_ ?_
 ·
  refine q1 (vi r1) ?_
  refine q1 (vb (r1 != 0)) ?_
  exact nR [0, 1]
 by_cases hc2 : (r1 != 0) = true
 ·
  replace h := iteT hc2 h
  refine NWp.condT (t := (r1 != 0)) rfl hc2 ?_
  refine NWp.opsJ ⟨tab [(2, .ptr 0 0 0), (3, vi r1)], stab [(0, bv4)], 1⟩ ?_ ?_
  ·
   refine step (v := vs1 (api_Program.mk [] (api_Pol.mk 0 0 0 []) [])) (st_build (ds := [eL none (D.int .u16) [], .int .i64 0, .int .i64 0, .int .u16 0, eL (some 4) eapi_Pol [], eL (some 3) eapi_Rule []]) rfl) ?_
   refine q1 (vi r1) ?_
   refine step (v := V.undef) (σ' := (upd (stab [(0, .var [vl3 a0.Init, vi a0.Pol.Op, vi a0.Pol.F, vh a0.Pol.N, vl0 a0.Pol.Kids, vl2 a0.Rules]), (1, bv4)]) 1 (some (bv4)))) (n' := 2) rfl ?_
   refine q1 (vi r1) ?_
   exact nR [1]
  have hh := Option.some.inj h
  subst hh
  refine NWp.ret ?_
  show FQ _ _ _ _
  exact FQ.mkT (.inr rfl) (res_cell (ds := [eL none (D.int .u16) [], .int .i64 0, .int .i64 0, .int .u16 0, eL (some 4) eapi_Pol [], eL (some 3) eapi_Rule []]) rfl rfl (show 6 ≤ 6 by decide) rfl (res_t (v := vi r1) rfl rfl)) (RV.d (RV.d trivial))
 ·
  replace h := iteF hc2 h
  refine NWp.condF (t := (r1 != 0)) rfl hc2 ?_
  refine NWp.skip ?_
  obtain ⟨r3, hr3, h⟩ := bindE h
  refine NWp.opsJ ⟨tab [(1, .ptr 0 0 0), (2, .ptr 1 0 0)], stab [(0, .var [vl3 a0.Init, vi r3.Op, vi r3.F, vh r3.N, vl0 r3.Kids, vl2 a0.Rules]), (1, bv4)], 2⟩ ?_ ?_
  ·
   refine q1 (.ptr 0 0 1) ?_
   refine step (v := vs0 a0.Pol) (st_ldV (ds := [.int .i64 a0.Pol.Op, .int .i64 a0.Pol.F, .int .u16 a0.Pol.N, eL (some 4) eapi_Pol a0.Pol.Kids]) rfl rfl (show 5 ≤ 6 by decide) rfl) ?_
   refine stepC (r := uapi_Pol r3) (ArgsOk.dt ArgsOk.nil') (c_trim_Trim hr3) ?_
   refine q1 (.ptr 0 0 1) ?_
   refine step (v := V.undef) (σ' := (upd (stab [(0, .var [vl3 a0.Init, vi a0.Pol.Op, vi a0.Pol.F, vh a0.Pol.N, vl0 a0.Pol.Kids, vl2 a0.Rules]), (1, bv4)]) 0 (some (.var [vl3 a0.Init, vi r3.Op, vi r3.F, vh r3.N, vl0 r3.Kids, vl2 a0.Rules])))) (n' := 2) rfl ?_
   exact nR [0, 1]
  refine NWp.opsJ ⟨tab [(2, .ptr 0 0 0), (3, vi 0)], stab [(0, .var [vl3 a0.Init, vi r3.Op, vi r3.F, vh r3.N, vl0 r3.Kids, vl2 a0.Rules])], 1⟩ ?_ ?_
  ·
   refine step (v := vs1 (api_Program.mk a0.Init r3 a0.Rules)) (st_ldV (ds := [eL none (D.int .u16) a0.Init, .int .i64 r3.Op, .int .i64 r3.F, .int .u16 r3.N, eL (some 4) eapi_Pol r3.Kids, eL (some 3) eapi_Rule a0.Rules]) rfl rfl (show 6 ≤ 6 by decide) rfl) ?_
   refine step (v := V.undef) (σ' := (upd (stab [(0, .var [vl3 a0.Init, vi r3.Op, vi r3.F, vh r3.N, vl0 r3.Kids, vl2 a0.Rules]), (1, bv4)]) 1 (some (.var [vl3 a0.Init, vi r3.Op, vi r3.F, vh r3.N, vl0 r3.Kids, vl2 a0.Rules])))) (n' := 2) rfl ?_
   refine q1 (vi 0) ?_
   exact nR [1]
  have hh := Option.some.inj h
  subst hh
  refine NWp.ret ?_
  show FQ _ _ _ _
  exact FQ.mkT (.inr rfl) (res_cell (ds := [eL none (D.int .u16) a0.Init, .int .i64 r3.Op, .int .i64 r3.F, .int .u16 r3.N, eL (some 4) eapi_Pol r3.Kids, eL (some 3) eapi_Rule a0.Rules]) rfl rfl (show 6 ≤ 6 by decide) rfl (res_t (v := vi 0) rfl rfl)) (RV.d (RV.d trivial))

theorem c_ref05_SamePairs {a0 : (List api_Pair)} {a1 : (List api_Pair)} {r : Bool} (h : ref05_SamePairs a0 a1 = some r) : PCall Try.prog 81 [eL (some 2) eapi_Pair a0, eL (some 2) eapi_Pair a1] (.bool r) := by
 refine PCall.introN ok81 (show 2 ≤ 26 by decide) ?_
 refine NWp.norm (s0 := ⟨tab [(0, vl1 a0), (1, vl1 a1)], stab [], 0⟩) (nr []) ?_
 refine NWp.opsJ ⟨tab [(0, vl1 a0), (1, vl1 a1)], stab [], 0⟩ ?_ ?_
 ·
  refine q1 (vb false) ?_
  exact nR []
 refine NWp.seq ?_
 refine NWp.opsJ ⟨tab [(0, vl1 a0), (1, vl1 a1), (10, vb ((a0.length : Int) != (a1.length : Int)))], stab [], 0⟩ ?_ ?_
 ·
  refine q1 (vl1 a0) ?_
  refine step (v := vi (a0.length : Int)) (st_len (xs := a0) (e := eapi_Pair) rfl) ?_
  refine q1 (vl1 a1) ?_
  refine step (v := vi (a1.length : Int)) (st_len (xs := a1) (e := eapi_Pair) rfl) ?_
  refine q1 (vb ((a0.length : Int) != (a1.length : Int))) ?_
  exact nR []
 by_cases hc1 : ((a0.length : Int) != (a1.length : Int)) = true
 ·
  replace h := iteT hc1 h
  refine NWp.condT (t := ((a0.length : Int) != (a1.length : Int))) rfl hc1 ?_
  refine NWp.opsJ ⟨tab [(4, vb false)], stab [], 0⟩ ?_ ?_
  ·
   refine q1 (vb false) ?_
   exact nR []
  have hh := Option.some.inj h
  subst hh
  refine NWp.ret ?_
  show FQ _ _ _ _
  exact FQ.mk1 (.inr rfl) (res_t (v := vb false) rfl rfl) (RV.d trivial)
 ·
  replace h := iteF hc1 h
  refine NWp.condF (t := ((a0.length : Int) != (a1.length : Int))) rfl hc1 ?_
  refine NWp.skip ?_
  refine NWp.seq ?_
  refine NWp.opsJ ⟨tab [(0, vl1 a0), (1, vl1 a1), (5, vi 0)], stab [], 0⟩ ?_ ?_
  ·
   refine q1 (vi 0) ?_
   exact nR []
  obtain ⟨q11, hl, h⟩ := bindE h
  refine NWp.block ?_
  refine loop_forR (cntU (a0.length : Int)) (fun (i2 : Int) (qq : Unit) => ⟨tab [(0, vl1 a0), (1, vl1 a1), (5, vi i2)], stab [], 0⟩) 0 (fun (qq : Unit) => ⟨tab [], stab [], 0⟩) Low low_step (r := r) hl (by unfold Low; omega) ?_ ?_ ?_ ?_
  ·
   rintro i2 ⟨⟩ xr7 hinv5 hgo4 h
   show NWp _ _ _ _ _ ⟨tab [(0, vl1 a0), (1, vl1 a1), (5, vi i2)], stab [], 0⟩
   have hc6 : decide (i2 < (a0.length : Int)) = true := decide_eq_true hgo4
   refine NWp.seq ?_
   refine NWp.opsJ ⟨tab [(0, vl1 a0), (1, vl1 a1), (5, vi i2), (13, vi (a0.length : Int)), (14, vb (decide (i2 < (a0.length : Int))))], stab [], 0⟩ ?_ ?_
   ·
    refine q1 (vi i2) ?_
    refine q1 (vl1 a0) ?_
    refine step (v := vi (a0.length : Int)) (st_len (xs := a0) (e := eapi_Pair) rfl) ?_
    refine q1 (vb (decide (i2 < (a0.length : Int)))) ?_
    exact nR []
   refine NWp.rng 13 rfl fun hB3 => ?_
   refine NWp.condT (t := decide (i2 < (a0.length : Int))) rfl hc6 ?_
   refine NWp.skip ?_
   refine NWp.seq ?_
   refine NWp.block ?_
   obtain ⟨x8, hx8, h⟩ := bindE h
   obtain ⟨x9, hx9, h⟩ := bindE h
   refine NWp.opsJ ⟨tab [(0, vl1 a0), (1, vl1 a1), (5, vi i2), (25, vb (!(x8 == x9)))], stab [], 0⟩ ?_ ?_
   ·
    refine q1 (vl1 a0) ?_
    refine q1 (vi i2) ?_
    refine step (v := vp2 x8) (st_iaddr (xs := a0) (e := eapi_Pair) hx8 rfl rfl) ?_
    refine q1 (.d (eapi_Pair x8)) ?_
    refine q1 (vl1 a1) ?_
    refine q1 (vi i2) ?_
    refine step (v := vp2 x9) (st_iaddr (xs := a1) (e := eapi_Pair) hx9 rfl rfl) ?_
    refine q1 (.d (eapi_Pair x9)) ?_
    refine step (v := vb (!(x8 == x9))) (st_eqS (neg := true) rfl rfl (eqS_api_Pair x8 x9)) ?_
    exact nR []
   by_cases hc10 : (!(x8 == x9)) = true
   ·
    replace h := iteT hc10 h
    refine NWp.condT (t := (!(x8 == x9))) rfl hc10 ?_
    refine NWp.opsJ ⟨tab [(4, vb false)], stab [], 0⟩ ?_ ?_
    ·
     refine q1 (vb false) ?_
     exact nR []
    obtain ⟨r11, kr11, hr⟩ := mapE (o := some false) (g := Br.ret) h
    subst hr
    have h := kr11
    have hh := Option.some.inj h
    subst hh
    refine NWp.ret ?_
    refine And.intro (fun hn => nomatch hn) ?_
    intro hq
    have hq := hq.symm
    subst hq
    show FQ _ _ _ _
    exact FQ.mk1 (.inr rfl) (res_t (v := vb false) rfl rfl) (RV.d trivial)
   ·
    replace h := iteF hc10 h
    refine NWp.condF (t := (!(x8 == x9))) rfl hc10 ?_
    refine NWp.skip ?_
    have hh := Option.some.inj h
    subst hh
    refine NWp.opsE ⟨tab [(0, vl1 a0), (1, vl1 a1), (5, vi (i2 + 1))], stab [], 0⟩ ?_ ?_
    ·
     refine q1 (vi i2) ?_
     refine step (v := vi (i2 + 1)) (st_inc (inc_ok hinv5 hgo4 hB3) rfl rfl) ?_
     refine q1 (vi (i2 + 1)) ?_
     exact nR []
    exact And.intro rfl rfl
  ·
   rintro i2 ⟨⟩ hinv5 hgo4
   show NWp _ _ _ _ _ ⟨tab [(0, vl1 a0), (1, vl1 a1), (5, vi i2)], stab [], 0⟩
   have hc6 : ¬ (decide (i2 < (a0.length : Int)) = true) := fun hq => hgo4 (of_decide_eq_true hq)
   refine NWp.seq ?_
   refine NWp.opsJ ⟨tab [(0, vl1 a0), (1, vl1 a1), (5, vi i2), (14, vb (decide (i2 < (a0.length : Int))))], stab [], 0⟩ ?_ ?_
   ·
    refine q1 (vi i2) ?_
    refine q1 (vl1 a0) ?_
    refine step (v := vi (a0.length : Int)) (st_len (xs := a0) (e := eapi_Pair) rfl) ?_
    refine q1 (vb (decide (i2 < (a0.length : Int)))) ?_
    exact nR []
   refine NWp.condF (t := decide (i2 < (a0.length : Int))) rfl hc6 ?_
   refine NWp.norm (s0 := ⟨tab [], stab [], 0⟩) (nr []) ?_
   refine NWp.exit ?_
   exact And.intro rfl rfl
  ·
   intro r' hq
   subst hq
   exact Option.some.inj h
  rintro ⟨⟩ rfl
  refine NWp.opsJ ⟨tab [(4, vb true)], stab [], 0⟩ ?_ ?_
  ·
   refine q1 (vb true) ?_
   exact nR []
  have hh := Option.some.inj h
  subst hh
  refine NWp.ret ?_
  show FQ _ _ _ _
  exact FQ.mk1 (.inr rfl) (res_t (v := vb true) rfl rfl) (RV.d trivial)

theorem c_ref05_Same {a0 : api_Program} {a1 : api_Program} {r : Bool} (h : ref05_Same a0 a1 = some r) : PCall Try.prog 52 [eapi_Program a0, eapi_Program a1] (.bool r) := by
 refine PCall.introN ok52 (show 2 ≤ 90 by decide) ?_
 refine NWp.norm (s0 := ⟨tab [(0, vs1 a0), (1, vs1 a1)], stab [], 0⟩) (nr []) ?_
 refine NWp.opsJ ⟨tab [(2, vp1 a0), (3, vp1 a1)], stab [], 0⟩ ?_ ?_
 ·
  refine q1 (vp1 a0) ?_
  refine q1 (vp1 a1) ?_
  refine q1 (vb false) ?_
  exact nR []
 refine NWp.seq ?_
 obtain ⟨y4, hv, h⟩ := bindE h
 refine NWp.opsJ ⟨tab [(2, vp1 a0), (3, vp1 a1), (32, vb y4)], stab [], 0⟩ ?_ ?_
 ·
  refine q1 (vp1 a0) ?_
  refine q1 (vl3 a0.Init) ?_
  refine step (v := vi (a0.Init.length : Int)) (st_len (xs := a0.Init) (e := (D.int .u16)) rfl) ?_
  refine q1 (vp1 a1) ?_
  refine q1 (vl3 a1.Init) ?_
  refine step (v := vi (a1.Init.length : Int)) (st_len (xs := a1.Init) (e := (D.int .u16)) rfl) ?_
  refine q1 (vb ((a0.Init.length : Int) != (a1.Init.length : Int))) ?_
  refine q1 (vb ((a0.Init.length : Int) != (a1.Init.length : Int))) ?_
  by_cases hg1 : ((a0.Init.length : Int) != (a1.Init.length : Int)) = true
  ·
   replace hv := iteT hg1 hv
   refine qX ((a0.Init.length : Int) != (a1.Init.length : Int)) (by rw [hg1]; decide) ?_
   refine qX ((a0.Init.length : Int) != (a1.Init.length : Int)) (by rw [hg1]; decide) ?_
   refine qX ((a0.Init.length : Int) != (a1.Init.length : Int)) (by rw [hg1]; decide) ?_
   refine qX ((a0.Init.length : Int) != (a1.Init.length : Int)) (by rw [hg1]; decide) ?_
   refine qX ((a0.Init.length : Int) != (a1.Init.length : Int)) (by rw [hg1]; decide) ?_
   refine qX ((a0.Init.length : Int) != (a1.Init.length : Int)) (by rw [hg1]; decide) ?_
   refine qX ((a0.Init.length : Int) != (a1.Init.length : Int)) (by rw [hg1]; decide) ?_
   refine step (v := vb true) (st_pickT (b := ((a0.Init.length : Int) != (a1.Init.length : Int))) rfl hg1 rfl) ?_
   refine q1 (vb true) ?_
   refine qX true (by decide) ?_
   refine qX true (by decide) ?_
   refine qX true (by decide) ?_
   refine qX true (by decide) ?_
   refine qX true (by decide) ?_
   refine qX true (by decide) ?_
   refine step (v := vb true) (st_pickT (b := true) rfl rfl rfl) ?_
   have hh := Option.some.inj hv
   subst hh
   exact nR []
  ·
   replace hv := iteF hg1 hv
   refine qG ((a0.Init.length : Int) != (a1.Init.length : Int)) (Bool.eq_false_iff.2 hg1) ?_
   refine q1 (.d (.cptr (some 6) (eapi_Program a0) 5)) ?_
   refine qG ((a0.Init.length : Int) != (a1.Init.length : Int)) (Bool.eq_false_iff.2 hg1) ?_
   refine q1 (vl2 a0.Rules) ?_
   refine qG ((a0.Init.length : Int) != (a1.Init.length : Int)) (Bool.eq_false_iff.2 hg1) ?_
   refine step (v := vi (a0.Rules.length : Int)) (st_len (xs := a0.Rules) (e := eapi_Rule) rfl) ?_
   refine qG ((a0.Init.length : Int) != (a1.Init.length : Int)) (Bool.eq_false_iff.2 hg1) ?_
   refine q1 (.d (.cptr (some 6) (eapi_Program a1) 5)) ?_
   refine qG ((a0.Init.length : Int) != (a1.Init.length : Int)) (Bool.eq_false_iff.2 hg1) ?_
   refine q1 (vl2 a1.Rules) ?_
   refine qG ((a0.Init.length : Int) != (a1.Init.length : Int)) (Bool.eq_false_iff.2 hg1) ?_
   refine step (v := vi (a1.Rules.length : Int)) (st_len (xs := a1.Rules) (e := eapi_Rule) rfl) ?_
   refine qG ((a0.Init.length : Int) != (a1.Init.length : Int)) (Bool.eq_false_iff.2 hg1) ?_
   refine q1 (vb ((a0.Rules.length : Int) != (a1.Rules.length : Int))) ?_
   refine step (v := vb ((a0.Rules.length : Int) != (a1.Rules.length : Int))) (st_pickF (b := ((a0.Init.length : Int) != (a1.Init.length : Int))) rfl hg1 rfl) ?_
   refine q1 (vb ((a0.Rules.length : Int) != (a1.Rules.length : Int))) ?_
   by_cases hg2 : ((a0.Rules.length : Int) != (a1.Rules.length : Int)) = true
   ·
    replace hv := iteT hg2 hv
    refine qX ((a0.Rules.length : Int) != (a1.Rules.length : Int)) (by rw [hg2]; decide) ?_
    refine qX ((a0.Rules.length : Int) != (a1.Rules.length : Int)) (by rw [hg2]; decide) ?_
    refine qX ((a0.Rules.length : Int) != (a1.Rules.length : Int)) (by rw [hg2]; decide) ?_
    refine qX ((a0.Rules.length : Int) != (a1.Rules.length : Int)) (by rw [hg2]; decide) ?_
    refine qX ((a0.Rules.length : Int) != (a1.Rules.length : Int)) (by rw [hg2]; decide) ?_
    refine qX ((a0.Rules.length : Int) != (a1.Rules.length : Int)) (by rw [hg2]; decide) ?_
    refine step (v := vb true) (st_pickT (b := ((a0.Rules.length : Int) != (a1.Rules.length : Int))) rfl hg2 rfl) ?_
    have hh := Option.some.inj hv
    subst hh
    exact nR []
   ·
    replace hv := iteF hg2 hv
    obtain ⟨r3, hr3, hv⟩ := bindE hv
    refine qG ((a0.Rules.length : Int) != (a1.Rules.length : Int)) (Bool.eq_false_iff.2 hg2) ?_
    refine q1 (.d (.cptr (some 6) (eapi_Program a0) 1)) ?_
    refine qG ((a0.Rules.length : Int) != (a1.Rules.length : Int)) (Bool.eq_false_iff.2 hg2) ?_
    refine q1 (vs0 a0.Pol) ?_
    refine qG ((a0.Rules.length : Int) != (a1.Rules.length : Int)) (Bool.eq_false_iff.2 hg2) ?_
    refine q1 (.d (.cptr (some 6) (eapi_Program a1) 1)) ?_
    refine qG ((a0.Rules.length : Int) != (a1.Rules.length : Int)) (Bool.eq_false_iff.2 hg2) ?_
    refine q1 (vs0 a1.Pol) ?_
    refine qG ((a0.Rules.length : Int) != (a1.Rules.length : Int)) (Bool.eq_false_iff.2 hg2) ?_
    refine stepC (r := .bool r3) (ArgsOk.dt (ArgsOk.dt ArgsOk.nil')) (c_ref05_SamePol hr3) ?_
    refine qG ((a0.Rules.length : Int) != (a1.Rules.length : Int)) (Bool.eq_false_iff.2 hg2) ?_
    refine q1 (vb (!r3)) ?_
    refine step (v := vb (!r3)) (st_pickF (b := ((a0.Rules.length : Int) != (a1.Rules.length : Int))) rfl hg2 rfl) ?_
    have hh := Option.some.inj hv
    subst hh
    exact nR []
 by_cases hc6 : y4 = true
 ·
  replace h := iteT hc6 h
  refine NWp.condT (t := y4) rfl hc6 ?_
  refine NWp.opsJ ⟨tab [(4, vb false)], stab [], 0⟩ ?_ ?_
  ·
   refine q1 (vb false) ?_
   exact nR []
  have hh := Option.some.inj h
  subst hh
  refine NWp.ret ?_
  show FQ _ _ _ _
  exact FQ.mk1 (.inr rfl) (res_t (v := vb false) rfl rfl) (RV.d trivial)
 ·
  replace h := iteF hc6 h
  refine NWp.condF (t := y4) rfl hc6 ?_
  refine NWp.skip ?_
  refine NWp.seq ?_
  refine NWp.opsJ ⟨tab [(2, vp1 a0), (3, vp1 a1), (5, vi 0)], stab [], 0⟩ ?_ ?_
  ·
   refine q1 (vi 0) ?_
   exact nR []
  obtain ⟨q33, hl, h⟩ := bindE h
  refine NWp.block ?_
  refine loop_forR (cntU (a0.Init.length : Int)) (fun (i7 : Int) (qq : Unit) => ⟨tab [(2, vp1 a0), (3, vp1 a1), (5, vi i7)], stab [], 0⟩) 0 (fun (qq : Unit) => ⟨tab [(2, vp1 a0), (3, vp1 a1)], stab [], 0⟩) Low low_step (r := r) hl (by unfold Low; omega) ?_ ?_ ?_ ?_
  ·
   rintro i7 ⟨⟩ xr12 hinv10 hgo9 h
   show NWp _ _ _ _ _ ⟨tab [(2, vp1 a0), (3, vp1 a1), (5, vi i7)], stab [], 0⟩
   have hc11 : decide (i7 < (a0.Init.length : Int)) = true := decide_eq_true hgo9
   refine NWp.seq ?_
   refine NWp.opsJ ⟨tab [(2, vp1 a0), (3, vp1 a1), (5, vi i7), (36, vi (a0.Init.length : Int)), (37, vb (decide (i7 < (a0.Init.length : Int))))], stab [], 0⟩ ?_ ?_
   ·
    refine q1 (vi i7) ?_
    refine q1 (vp1 a0) ?_
    refine q1 (vl3 a0.Init) ?_
    refine step (v := vi (a0.Init.length : Int)) (st_len (xs := a0.Init) (e := (D.int .u16)) rfl) ?_
    refine q1 (vb (decide (i7 < (a0.Init.length : Int)))) ?_
    exact nR []
   refine NWp.rng 36 rfl fun hB8 => ?_
   refine NWp.condT (t := decide (i7 < (a0.Init.length : Int))) rfl hc11 ?_
   refine NWp.skip ?_
   refine NWp.seq ?_
   refine NWp.block ?_
   obtain ⟨x13, hx13, h⟩ := bindE h
   obtain ⟨x14, hx14, h⟩ := bindE h
   refine NWp.opsJ ⟨tab [(2, vp1 a0), (3, vp1 a1), (5, vi i7), (50, vb (x13 != x14))], stab [], 0⟩ ?_ ?_
   ·
    refine q1 (vp1 a0) ?_
    refine q1 (vl3 a0.Init) ?_
    refine q1 (vi i7) ?_
    refine step (v := .d (.cptr none (.int .u16 x13) 0)) (st_iaddr (xs := a0.Init) (e := (D.int .u16)) hx13 rfl rfl) ?_
    refine q1 (vh x13) ?_
    refine q1 (vp1 a1) ?_
    refine q1 (vl3 a1.Init) ?_
    refine q1 (vi i7) ?_
    refine step (v := .d (.cptr none (.int .u16 x14) 0)) (st_iaddr (xs := a1.Init) (e := (D.int .u16)) hx14 rfl rfl) ?_
    refine q1 (vh x14) ?_
    refine q1 (vb (x13 != x14)) ?_
    exact nR []
   by_cases hc15 : (x13 != x14) = true
   ·
    replace h := iteT hc15 h
    refine NWp.condT (t := (x13 != x14)) rfl hc15 ?_
    refine NWp.opsJ ⟨tab [(4, vb false)], stab [], 0⟩ ?_ ?_
    ·
     refine q1 (vb false) ?_
     exact nR []
    obtain ⟨r16, kr16, hr⟩ := mapE (o := some false) (g := Br.ret) h
    subst hr
    have h := kr16
    have hh := Option.some.inj h
    subst hh
    refine NWp.ret ?_
    refine And.intro (fun hn => nomatch hn) ?_
    intro hq
    have hq := hq.symm
    subst hq
    show FQ _ _ _ _
    exact FQ.mk1 (.inr rfl) (res_t (v := vb false) rfl rfl) (RV.d trivial)
   ·
    replace h := iteF hc15 h
    refine NWp.condF (t := (x13 != x14)) rfl hc15 ?_
    refine NWp.skip ?_
    have hh := Option.some.inj h
    subst hh
    refine NWp.opsE ⟨tab [(2, vp1 a0), (3, vp1 a1), (5, vi (i7 + 1))], stab [], 0⟩ ?_ ?_
    ·
     refine q1 (vi i7) ?_
     refine step (v := vi (i7 + 1)) (st_inc (inc_ok hinv10 hgo9 hB8) rfl rfl) ?_
     refine q1 (vi (i7 + 1)) ?_
     exact nR []
    exact And.intro rfl rfl
  ·
   rintro i7 ⟨⟩ hinv10 hgo9
   show NWp _ _ _ _ _ ⟨tab [(2, vp1 a0), (3, vp1 a1), (5, vi i7)], stab [], 0⟩
   have hc11 : ¬ (decide (i7 < (a0.Init.length : Int)) = true) := fun hq => hgo9 (of_decide_eq_true hq)
   refine NWp.seq ?_
   refine NWp.opsJ ⟨tab [(2, vp1 a0), (3, vp1 a1), (5, vi i7), (37, vb (decide (i7 < (a0.Init.length : Int))))], stab [], 0⟩ ?_ ?_
   ·
    refine q1 (vi i7) ?_
    refine q1 (vp1 a0) ?_
    refine q1 (vl3 a0.Init) ?_
    refine step (v := vi (a0.Init.length : Int)) (st_len (xs := a0.Init) (e := (D.int .u16)) rfl) ?_
    refine q1 (vb (decide (i7 < (a0.Init.length : Int)))) ?_
    exact nR []
   refine NWp.condF (t := decide (i7 < (a0.Init.length : Int))) rfl hc11 ?_
   refine NWp.norm (s0 := ⟨tab [(2, vp1 a0), (3, vp1 a1)], stab [], 0⟩) (nr []) ?_
   refine NWp.exit ?_
   exact And.intro rfl rfl
  ·
   intro r' hq
   subst hq
   exact Option.some.inj h
  rintro ⟨⟩ rfl
  refine NWp.seq ?_
  refine NWp.opsJ ⟨tab [(2, vp1 a0), (3, vp1 a1), (6, vi 0)], stab [], 0⟩ ?_ ?_
  ·
   refine q1 (vi 0) ?_
   exact nR []
  obtain ⟨q32, hl, h⟩ := bindE h
  refine NWp.block ?_
  refine loop_forR (cntU (a0.Rules.length : Int)) (fun (i16 : Int) (qq : Unit) => ⟨tab [(2, vp1 a0), (3, vp1 a1), (6, vi i16)], stab [], 0⟩) 2 (fun (qq : Unit) => ⟨tab [], stab [], 0⟩) Low low_step (r := r) hl (by unfold Low; omega) ?_ ?_ ?_ ?_
  ·
   rintro i16 ⟨⟩ xr21 hinv19 hgo18 h
   show NWp _ _ _ _ _ ⟨tab [(2, vp1 a0), (3, vp1 a1), (6, vi i16)], stab [], 0⟩
   have hc20 : decide (i16 < (a0.Rules.length : Int)) = true := decide_eq_true hgo18
   refine NWp.seq ?_
   refine NWp.opsJ ⟨tab [(2, vp1 a0), (3, vp1 a1), (6, vi i16), (54, vi (a0.Rules.length : Int)), (55, vb (decide (i16 < (a0.Rules.length : Int))))], stab [], 0⟩ ?_ ?_
   ·
    refine q1 (vi i16) ?_
    refine q1 (.d (.cptr (some 6) (eapi_Program a0) 5)) ?_
    refine q1 (vl2 a0.Rules) ?_
    refine step (v := vi (a0.Rules.length : Int)) (st_len (xs := a0.Rules) (e := eapi_Rule) rfl) ?_
    refine q1 (vb (decide (i16 < (a0.Rules.length : Int)))) ?_
    exact nR []
   refine NWp.rng 54 rfl fun hB17 => ?_
   refine NWp.condT (t := decide (i16 < (a0.Rules.length : Int))) rfl hc20 ?_
   refine NWp.skip ?_
   refine NWp.seq ?_
   refine NWp.block ?_
   obtain ⟨x22, hx22, h⟩ := bindE h
   refine NWp.opsJ ⟨tab [(2, vp1 a0), (3, vp1 a1), (6, vi i16), (7, .ptr 0 0 0)], stab [(0, bv3 x22)], 1⟩ ?_ ?_
   ·
    refine q1 (.d (.cptr (some 6) (eapi_Program a0) 5)) ?_
    refine q1 (vl2 a0.Rules) ?_
    refine q1 (vi i16) ?_
    refine step (v := .d (.cptr (some 3) (eapi_Rule x22) 0)) (st_iaddr (xs := a0.Rules) (e := eapi_Rule) hx22 rfl rfl) ?_
    refine q1 (.d (eapi_Rule x22)) ?_
    refine step (v := .ptr 0 0 0) (σ' := (upd (stab []) 0 (some (.var [vl1 [], vl1 [], vl1 []])))) (n' := 1) rfl ?_
    refine step (v := V.undef) (σ' := (upd (upd (stab []) 0 (some (.var [vl1 [], vl1 [], vl1 []]))) 0 (some (bv3 x22)))) (n' := 1) rfl ?_
    exact nR [0]
   obtain ⟨x23, hx23, h⟩ := bindE h
   refine NWp.opsJ ⟨tab [(2, vp1 a0), (3, vp1 a1), (6, vi i16), (7, .ptr 0 0 0), (8, .ptr 1 0 0)], stab [(0, bv3 x22), (1, bv3 x23)], 2⟩ ?_ ?_
   ·
    refine q1 (.d (.cptr (some 6) (eapi_Program a1) 5)) ?_
    refine q1 (vl2 a1.Rules) ?_
    refine q1 (vi i16) ?_
    refine step (v := .d (.cptr (some 3) (eapi_Rule x23) 0)) (st_iaddr (xs := a1.Rules) (e := eapi_Rule) hx23 rfl rfl) ?_
    refine q1 (.d (eapi_Rule x23)) ?_
    refine step (v := .ptr 1 0 0) (σ' := (upd (stab [(0, bv3 x22)]) 1 (some (.var [vl1 [], vl1 [], vl1 []])))) (n' := 2) rfl ?_
    refine step (v := V.undef) (σ' := (upd (upd (stab [(0, bv3 x22)]) 1 (some (.var [vl1 [], vl1 [], vl1 []]))) 1 (some (bv3 x23)))) (n' := 2) rfl ?_
    exact nR [0, 1]
   obtain ⟨r24, hr24, h⟩ := bindE h
   obtain ⟨y29, hv, h⟩ := bindE h
   refine NWp.opsJ ⟨tab [(2, vp1 a0), (3, vp1 a1), (6, vi i16), (89, vb y29)], stab [], 0⟩ ?_ ?_
   ·
    refine q1 (.ptr 0 0 0) ?_
    refine q1 (vl1 x22.When) ?_
    refine q1 (.ptr 1 0 0) ?_
    refine q1 (vl1 x23.When) ?_
    refine stepC (r := .bool r24) (ArgsOk.dt (ArgsOk.dt ArgsOk.nil')) (c_ref05_SamePairs hr24) ?_
    refine q1 (vb (!r24)) ?_
    refine q1 (vb (!r24)) ?_
    by_cases hg25 : (!r24) = true
    ·
     replace hv := iteT hg25 hv
     refine qX (!r24) (by rw [hg25]; decide) ?_
     refine qX (!r24) (by rw [hg25]; decide) ?_
     refine qX (!r24) (by rw [hg25]; decide) ?_
     refine qX (!r24) (by rw [hg25]; decide) ?_
     refine qX (!r24) (by rw [hg25]; decide) ?_
     refine qX (!r24) (by rw [hg25]; decide) ?_
     refine step (v := vb true) (st_pickT (b := (!r24)) rfl hg25 rfl) ?_
     refine q1 (vb true) ?_
     refine qX true (by decide) ?_
     refine qX true (by decide) ?_
     refine qX true (by decide) ?_
     refine qX true (by decide) ?_
     refine qX true (by decide) ?_
     refine qX true (by decide) ?_
     refine step (v := vb true) (st_pickT (b := true) rfl rfl rfl) ?_
     have hh := Option.some.inj hv
     subst hh
     exact nR []
    ·
     replace hv := iteF hg25 hv
     obtain ⟨r26, hr26, hv⟩ := bindE hv
     refine qG (!r24) (Bool.eq_false_iff.2 hg25) ?_
     refine q1 (.ptr 0 0 1) ?_
     refine qG (!r24) (Bool.eq_false_iff.2 hg25) ?_
     refine q1 (vl1 x22.Guard) ?_
     refine qG (!r24) (Bool.eq_false_iff.2 hg25) ?_
     refine q1 (.ptr 1 0 1) ?_
     refine qG (!r24) (Bool.eq_false_iff.2 hg25) ?_
     refine q1 (vl1 x23.Guard) ?_
     refine qG (!r24) (Bool.eq_false_iff.2 hg25) ?_
     refine stepC (r := .bool r26) (ArgsOk.dt (ArgsOk.dt ArgsOk.nil')) (c_ref05_SamePairs hr26) ?_
     refine qG (!r24) (Bool.eq_false_iff.2 hg25) ?_
     refine q1 (vb (!r26)) ?_
     refine step (v := vb (!r26)) (st_pickF (b := (!r24)) rfl hg25 rfl) ?_
     refine q1 (vb (!r26)) ?_
     by_cases hg27 : (!r26) = true
     ·
      replace hv := iteT hg27 hv
      refine qX (!r26) (by rw [hg27]; decide) ?_
      refine qX (!r26) (by rw [hg27]; decide) ?_
      refine qX (!r26) (by rw [hg27]; decide) ?_
      refine qX (!r26) (by rw [hg27]; decide) ?_
      refine qX (!r26) (by rw [hg27]; decide) ?_
      refine qX (!r26) (by rw [hg27]; decide) ?_
      refine step (v := vb true) (st_pickT (b := (!r26)) rfl hg27 rfl) ?_
      have hh := Option.some.inj hv
      subst hh
      exact nR []
     ·
      replace hv := iteF hg27 hv
      obtain ⟨r28, hr28, hv⟩ := bindE hv
      refine qG (!r26) (Bool.eq_false_iff.2 hg27) ?_
      refine q1 (.ptr 0 0 2) ?_
      refine qG (!r26) (Bool.eq_false_iff.2 hg27) ?_
      refine q1 (vl1 x22.Then) ?_
      refine qG (!r26) (Bool.eq_false_iff.2 hg27) ?_
      refine q1 (.ptr 1 0 2) ?_
      refine qG (!r26) (Bool.eq_false_iff.2 hg27) ?_
      refine q1 (vl1 x23.Then) ?_
      refine qG (!r26) (Bool.eq_false_iff.2 hg27) ?_
      refine stepC (r := .bool r28) (ArgsOk.dt (ArgsOk.dt ArgsOk.nil')) (c_ref05_SamePairs hr28) ?_
      refine qG (!r26) (Bool.eq_false_iff.2 hg27) ?_
      refine q1 (vb (!r28)) ?_
      refine step (v := vb (!r28)) (st_pickF (b := (!r26)) rfl hg27 rfl) ?_
      have hh := Option.some.inj hv
      subst hh
      exact nR []
   by_cases hc31 : y29 = true
   ·
    replace h := iteT hc31 h
    refine NWp.condT (t := y29) rfl hc31 ?_
    refine NWp.opsJ ⟨tab [(4, vb false)], stab [], 0⟩ ?_ ?_
    ·
     refine q1 (vb false) ?_
     exact nR []
    obtain ⟨r32, kr32, hr⟩ := mapE (o := some false) (g := Br.ret) h
    subst hr
    have h := kr32
    have hh := Option.some.inj h
    subst hh
    refine NWp.ret ?_
    refine And.intro (fun hn => nomatch hn) ?_
    intro hq
    have hq := hq.symm
    subst hq
    show FQ _ _ _ _
    exact FQ.mk1 (.inr rfl) (res_t (v := vb false) rfl rfl) (RV.d trivial)
   ·
    replace h := iteF hc31 h
    refine NWp.condF (t := y29) rfl hc31 ?_
    refine NWp.skip ?_
    have hh := Option.some.inj h
    subst hh
    refine NWp.opsE ⟨tab [(2, vp1 a0), (3, vp1 a1), (6, vi (i16 + 1))], stab [], 0⟩ ?_ ?_
    ·
     refine q1 (vi i16) ?_
     refine step (v := vi (i16 + 1)) (st_inc (inc_ok hinv19 hgo18 hB17) rfl rfl) ?_
     refine q1 (vi (i16 + 1)) ?_
     exact nR []
    exact And.intro rfl rfl
  ·
   rintro i16 ⟨⟩ hinv19 hgo18
   show NWp _ _ _ _ _ ⟨tab [(2, vp1 a0), (3, vp1 a1), (6, vi i16)], stab [], 0⟩
   have hc20 : ¬ (decide (i16 < (a0.Rules.length : Int)) = true) := fun hq => hgo18 (of_decide_eq_true hq)
   refine NWp.seq ?_
   refine NWp.opsJ ⟨tab [(2, vp1 a0), (3, vp1 a1), (6, vi i16), (55, vb (decide (i16 < (a0.Rules.length : Int))))], stab [], 0⟩ ?_ ?_
   ·
    refine q1 (vi i16) ?_
    refine q1 (.d (.cptr (some 6) (eapi_Program a0) 5)) ?_
    refine q1 (vl2 a0.Rules) ?_
    refine step (v := vi (a0.Rules.length : Int)) (st_len (xs := a0.Rules) (e := eapi_Rule) rfl) ?_
    refine q1 (vb (decide (i16 < (a0.Rules.length : Int)))) ?_
    exact nR []
   refine NWp.condF (t := decide (i16 < (a0.Rules.length : Int))) rfl hc20 ?_
   refine NWp.norm (s0 := ⟨tab [], stab [], 0⟩) (nr []) ?_
   refine NWp.exit ?_
   exact And.intro rfl rfl
  ·
   intro r' hq
   subst hq
   exact Option.some.inj h
  rintro ⟨⟩ rfl
  refine NWp.opsJ ⟨tab [(4, vb true)], stab [], 0⟩ ?_ ?_
  ·
   refine q1 (vb true) ?_
   exact nR []
  have hh := Option.some.inj h
  subst hh
  refine NWp.ret ?_
  show FQ _ _ _ _
  exact FQ.mk1 (.inr rfl) (res_t (v := vb true) rfl rfl) (RV.d trivial)

theorem c_law28_TrimTells {a0 : (List law05_Step)} {a1 : api_Program} {r : Bool} (h : law28_TrimTells a0 a1 = some r) : PCall Try.prog 12 [eL (some 4) elaw05_Step a0, eapi_Program a1] (.bool r) := by
 refine PCall.introN ok12 (show 2 ≤ 61 by decide) ?_
 refine NWp.norm (s0 := ⟨tab [(0, vl4 a0), (1, vs1 a1)], stab [], 0⟩) (nr []) ?_
 refine NWp.opsJ ⟨tab [(0, vl4 a0), (3, .ptr 0 0 0)], stab [(0, .var [vl3 a1.Init, vi a1.Pol.Op, vi a1.Pol.F, vh a1.Pol.N, vl0 a1.Pol.Kids, vl2 a1.Rules])], 1⟩ ?_ ?_
 ·
  refine step (v := .ptr 0 0 0) (σ' := (upd (stab []) 0 (some (.var [vl3 a1.Init, vi a1.Pol.Op, vi a1.Pol.F, vh a1.Pol.N, vl0 a1.Pol.Kids, vl2 a1.Rules])))) (n' := 1) rfl ?_
  refine q1 (vb false) ?_
  exact nR [0]
 refine NWp.seq ?_
 obtain ⟨r1, hr1, h⟩ := bindE h
 refine NWp.opsJ ⟨tab [(0, vl4 a0), (3, .ptr 0 0 0), (12, vb (!r1))], stab [(0, .var [vl3 a1.Init, vi a1.Pol.Op, vi a1.Pol.F, vh a1.Pol.N, vl0 a1.Pol.Kids, vl2 a1.Rules])], 1⟩ ?_ ?_
 ·
  refine stepC (r := .bool r1) ArgsOk.nil' (c_law28_awake hr1) ?_
  refine q1 (vb (!r1)) ?_
  exact nR [0]
 by_cases hc2 : (!r1) = true
 ·
  replace h := iteT hc2 h
  refine NWp.condT (t := (!r1)) rfl hc2 ?_
  refine NWp.opsJ ⟨tab [(4, vb false)], stab [], 0⟩ ?_ ?_
  ·
   refine q1 (vb false) ?_
   exact nR []
  have hh := Option.some.inj h
  subst hh
  refine NWp.ret ?_
  show FQ _ _ _ _
  exact FQ.mk1 (.inr rfl) (res_t (v := vb false) rfl rfl) (RV.d trivial)
 ·
  replace h := iteF hc2 h
  refine NWp.condF (t := (!r1)) rfl hc2 ?_
  refine NWp.skip ?_
  obtain ⟨r3, hr3, h⟩ := bindE h
  refine NWp.opsJ ⟨tab [(3, .ptr 0 0 0), (5, .ptr 1 0 0), (6, vb r3.2)], stab [(0, .var [vl3 a1.Init, vi a1.Pol.Op, vi a1.Pol.F, vh a1.Pol.N, vl0 a1.Pol.Kids, vl2 a1.Rules]), (1, .var [vi r3.1.Op, vi r3.1.F, vh r3.1.N, vl0 r3.1.Kids])], 2⟩ ?_ ?_
  ·
   refine q1 (vl4 a0) ?_
   refine stepC (r := .tup [uapi_Pol r3.1, .bool r3.2]) (ArgsOk.dt ArgsOk.nil') (c_law05_Pile hr3) ?_
   refine q1 (.d (.tup [uapi_Pol r3.1, .bool r3.2])) ?_
   refine q1 (vs0 r3.1) ?_
   refine q1 (vb r3.2) ?_
   refine step (v := .ptr 1 0 0) (σ' := (upd (stab [(0, .var [vl3 a1.Init, vi a1.Pol.Op, vi a1.Pol.F, vh a1.Pol.N, vl0 a1.Pol.Kids, vl2 a1.Rules])]) 1 (some (bv0)))) (n' := 2) rfl ?_
   refine step (v := V.undef) (σ' := (upd (upd (stab [(0, .var [vl3 a1.Init, vi a1.Pol.Op, vi a1.Pol.F, vh a1.Pol.N, vl0 a1.Pol.Kids, vl2 a1.Rules])]) 1 (some (bv0))) 1 (some (.var [vi r3.1.Op, vi r3.1.F, vh r3.1.N, vl0 r3.1.Kids])))) (n' := 2) rfl ?_
   refine q1 (vb r3.2) ?_
   exact nR [0, 1]
  refine NWp.seq ?_
  obtain ⟨y6, hv, h⟩ := bindE h
  refine NWp.opsJ ⟨tab [(3, .ptr 0 0 0), (5, .ptr 1 0 0), (24, vb y6)], stab [(0, .var [vl3 a1.Init, vi a1.Pol.Op, vi a1.Pol.F, vh a1.Pol.N, vl0 a1.Pol.Kids, vl2 a1.Rules]), (1, .var [vi r3.1.Op, vi r3.1.F, vh r3.1.N, vl0 r3.1.Kids])], 2⟩ ?_ ?_
  ·
   refine q1 (vb r3.2) ?_
   refine q1 (vb (!r3.2)) ?_
   refine q1 (vb (!r3.2)) ?_
   by_cases hg4 : (!r3.2) = true
   ·
    replace hv := iteT hg4 hv
    refine qX (!r3.2) (by rw [hg4]; decide) ?_
    refine qX (!r3.2) (by rw [hg4]; decide) ?_
    refine qX (!r3.2) (by rw [hg4]; decide) ?_
    refine step (v := vb true) (st_pickT (b := (!r3.2)) rfl hg4 rfl) ?_
    have hh := Option.some.inj hv
    subst hh
    exact nR [0, 1]
   ·
    replace hv := iteF hg4 hv
    obtain ⟨r5, hr5, hv⟩ := bindE hv
    refine qG (!r3.2) (Bool.eq_false_iff.2 hg4) ?_
    refine step (v := vs1 a1) (st_ldV (ds := [eL none (D.int .u16) a1.Init, .int .i64 a1.Pol.Op, .int .i64 a1.Pol.F, .int .u16 a1.Pol.N, eL (some 4) eapi_Pol a1.Pol.Kids, eL (some 3) eapi_Rule a1.Rules]) rfl rfl (show 6 ≤ 6 by decide) rfl) ?_
    refine qG (!r3.2) (Bool.eq_false_iff.2 hg4) ?_
    refine stepC (r := .bool r5) (ArgsOk.dt ArgsOk.nil') (c_law11_Small hr5) ?_
    refine qG (!r3.2) (Bool.eq_false_iff.2 hg4) ?_
    refine q1 (vb (!r5)) ?_
    refine step (v := vb (!r5)) (st_pickF (b := (!r3.2)) rfl hg4 rfl) ?_
    have hh := Option.some.inj hv
    subst hh
    exact nR [0, 1]
  by_cases hc8 : y6 = true
  ·
   replace h := iteT hc8 h
   refine NWp.condT (t := y6) rfl hc8 ?_
   refine NWp.opsJ ⟨tab [(4, vb true)], stab [], 0⟩ ?_ ?_
   ·
    refine q1 (vb true) ?_
    exact nR []
   have hh := Option.some.inj h
   subst hh
   refine NWp.ret ?_
   show FQ _ _ _ _
   exact FQ.mk1 (.inr rfl) (res_t (v := vb true) rfl rfl) (RV.d trivial)
  ·
   replace h := iteF hc8 h
   refine NWp.condF (t := y6) rfl hc8 ?_
   refine NWp.skip ?_
   obtain ⟨r9, hr9, h⟩ := bindE h
   refine NWp.opsJ ⟨tab [(3, .ptr 0 0 0), (5, .ptr 1 0 0), (7, .ptr 2 0 0)], stab [(0, .var [vl3 a1.Init, vi a1.Pol.Op, vi a1.Pol.F, vh a1.Pol.N, vl0 a1.Pol.Kids, vl2 a1.Rules]), (1, .var [vi r3.1.Op, vi r3.1.F, vh r3.1.N, vl0 r3.1.Kids]), (2, bv1 r9)], 3⟩ ?_ ?_
   ·
    refine step (v := vs0 r3.1) (st_ldV (ds := [.int .i64 r3.1.Op, .int .i64 r3.1.F, .int .u16 r3.1.N, eL (some 4) eapi_Pol r3.1.Kids]) rfl rfl (show 4 ≤ 4 by decide) rfl) ?_
    refine stepC (r := uapi_Pol r9) (ArgsOk.dt ArgsOk.nil') (c_ref28_Trim hr9) ?_
    refine step (v := .ptr 2 0 0) (σ' := (upd (stab [(0, .var [vl3 a1.Init, vi a1.Pol.Op, vi a1.Pol.F, vh a1.Pol.N, vl0 a1.Pol.Kids, vl2 a1.Rules]), (1, .var [vi r3.1.Op, vi r3.1.F, vh r3.1.N, vl0 r3.1.Kids])]) 2 (some (bv0)))) (n' := 3) rfl ?_
    refine step (v := V.undef) (σ' := (upd (upd (stab [(0, .var [vl3 a1.Init, vi a1.Pol.Op, vi a1.Pol.F, vh a1.Pol.N, vl0 a1.Pol.Kids, vl2 a1.Rules]), (1, .var [vi r3.1.Op, vi r3.1.F, vh r3.1.N, vl0 r3.1.Kids])]) 2 (some (bv0))) 2 (some (bv1 r9)))) (n' := 3) rfl ?_
    exact nR [0, 1, 2]
   refine NWp.opsJ ⟨tab [(3, .ptr 0 0 0), (5, .ptr 1 0 0), (7, .ptr 2 0 0)], stab [(0, .var [vl3 a1.Init, vi r3.1.Op, vi r3.1.F, vh r3.1.N, vl0 r3.1.Kids, vl2 a1.Rules]), (1, .var [vi r3.1.Op, vi r3.1.F, vh r3.1.N, vl0 r3.1.Kids]), (2, bv1 r9)], 3⟩ ?_ ?_
   ·
    refine step (v := vs0 r3.1) (st_ldV (ds := [.int .i64 r3.1.Op, .int .i64 r3.1.F, .int .u16 r3.1.N, eL (some 4) eapi_Pol r3.1.Kids]) rfl rfl (show 4 ≤ 4 by decide) rfl) ?_
    refine q1 (.ptr 0 0 1) ?_
    refine step (v := V.undef) (σ' := (upd (stab [(0, .var [vl3 a1.Init, vi a1.Pol.Op, vi a1.Pol.F, vh a1.Pol.N, vl0 a1.Pol.Kids, vl2 a1.Rules]), (1, .var [vi r3.1.Op, vi r3.1.F, vh r3.1.N, vl0 r3.1.Kids]), (2, bv1 r9)]) 0 (some (.var [vl3 a1.Init, vi r3.1.Op, vi r3.1.F, vh r3.1.N, vl0 r3.1.Kids, vl2 a1.Rules])))) (n' := 3) rfl ?_
    exact nR [0, 1, 2]
   obtain ⟨r10, hr10, h⟩ := bindE h
   refine NWp.opsJ ⟨tab [(3, .ptr 0 0 0), (5, .ptr 1 0 0), (7, .ptr 2 0 0), (8, .ptr 3 0 0), (9, vi r10.2)], stab [(0, .var [vl3 a1.Init, vi r3.1.Op, vi r3.1.F, vh r3.1.N, vl0 r3.1.Kids, vl2 a1.Rules]), (1, .var [vi r3.1.Op, vi r3.1.F, vh r3.1.N, vl0 r3.1.Kids]), (2, bv1 r9), (3, .var [vl3 r10.1.Init, vi r10.1.Pol.Op, vi r10.1.Pol.F, vh r10.1.Pol.N, vl0 r10.1.Pol.Kids, vl2 r10.1.Rules])], 4⟩ ?_ ?_
   ·
    refine step (v := vs1 (api_Program.mk a1.Init r3.1 a1.Rules)) (st_ldV (ds := [eL none (D.int .u16) a1.Init, .int .i64 r3.1.Op, .int .i64 r3.1.F, .int .u16 r3.1.N, eL (some 4) eapi_Pol r3.1.Kids, eL (some 3) eapi_Rule a1.Rules]) rfl rfl (show 6 ≤ 6 by decide) rfl) ?_
    refine stepC (r := .tup [eapi_Program r10.1, .int .i64 r10.2]) (ArgsOk.dt ArgsOk.nil') (c_trim_Program hr10) ?_
    refine q1 (.d (.tup [eapi_Program r10.1, .int .i64 r10.2])) ?_
    refine q1 (vs1 r10.1) ?_
    refine q1 (vi r10.2) ?_
    refine step (v := .ptr 3 0 0) (σ' := (upd (stab [(0, .var [vl3 a1.Init, vi r3.1.Op, vi r3.1.F, vh r3.1.N, vl0 r3.1.Kids, vl2 a1.Rules]), (1, .var [vi r3.1.Op, vi r3.1.F, vh r3.1.N, vl0 r3.1.Kids]), (2, bv1 r9)]) 3 (some (bv4)))) (n' := 4) rfl ?_
    refine step (v := V.undef) (σ' := (upd (upd (stab [(0, .var [vl3 a1.Init, vi r3.1.Op, vi r3.1.F, vh r3.1.N, vl0 r3.1.Kids, vl2 a1.Rules]), (1, .var [vi r3.1.Op, vi r3.1.F, vh r3.1.N, vl0 r3.1.Kids]), (2, bv1 r9)]) 3 (some (bv4))) 3 (some (.var [vl3 r10.1.Init, vi r10.1.Pol.Op, vi r10.1.Pol.F, vh r10.1.Pol.N, vl0 r10.1.Pol.Kids, vl2 r10.1.Rules])))) (n' := 4) rfl ?_
    refine q1 (vi r10.2) ?_
    exact nR [0, 1, 2, 3]
   obtain ⟨r11, hr11, h⟩ := bindE h
   refine NWp.opsJ ⟨tab [(3, .ptr 0 0 0), (5, .ptr 1 0 0), (7, .ptr 2 0 0), (8, .ptr 3 0 0), (9, vi r10.2), (10, vi r11)], stab [(0, .var [vl3 a1.Init, vi r3.1.Op, vi r3.1.F, vh r3.1.N, vl0 r3.1.Kids, vl2 a1.Rules]), (1, .var [vi r3.1.Op, vi r3.1.F, vh r3.1.N, vl0 r3.1.Kids]), (2, bv1 r9), (3, .var [vl3 r10.1.Init, vi r10.1.Pol.Op, vi r10.1.Pol.F, vh r10.1.Pol.N, vl0 r10.1.Pol.Kids, vl2 r10.1.Rules])], 4⟩ ?_ ?_
   ·
    refine step (v := vs1 (api_Program.mk a1.Init r3.1 a1.Rules)) (st_ldV (ds := [eL none (D.int .u16) a1.Init, .int .i64 r3.1.Op, .int .i64 r3.1.F, .int .u16 r3.1.N, eL (some 4) eapi_Pol r3.1.Kids, eL (some 3) eapi_Rule a1.Rules]) rfl rfl (show 6 ≤ 6 by decide) rfl) ?_
    refine stepC (r := .int .i64 r11) (ArgsOk.dt ArgsOk.nil') (c_ref05_Check hr11) ?_
    refine q1 (vi r11) ?_
    exact nR [0, 1, 2, 3]
   refine NWp.seq ?_
   refine NWp.opsJ ⟨tab [(3, .ptr 0 0 0), (5, .ptr 1 0 0), (7, .ptr 2 0 0), (8, .ptr 3 0 0), (10, vi r11), (38, vb (r10.2 != r11))], stab [(0, .var [vl3 a1.Init, vi r3.1.Op, vi r3.1.F, vh r3.1.N, vl0 r3.1.Kids, vl2 a1.Rules]), (1, .var [vi r3.1.Op, vi r3.1.F, vh r3.1.N, vl0 r3.1.Kids]), (2, bv1 r9), (3, .var [vl3 r10.1.Init, vi r10.1.Pol.Op, vi r10.1.Pol.F, vh r10.1.Pol.N, vl0 r10.1.Pol.Kids, vl2 r10.1.Rules])], 4⟩ ?_ ?_
   ·
    refine q1 (vi r10.2) ?_
    refine q1 (vi r11) ?_
    refine q1 (vb (r10.2 != r11)) ?_
    exact nR [0, 1, 2, 3]
   by_cases hc12 : (r10.2 != r11) = true
   ·
    replace h := iteT hc12 h
    refine NWp.condT (t := (r10.2 != r11)) rfl hc12 ?_
    refine NWp.opsJ ⟨tab [(4, vb false)], stab [], 0⟩ ?_ ?_
    ·
     refine q1 (vb false) ?_
     exact nR []
    have hh := Option.some.inj h
    subst hh
    refine NWp.ret ?_
    show FQ _ _ _ _
    exact FQ.mk1 (.inr rfl) (res_t (v := vb false) rfl rfl) (RV.d trivial)
   ·
    replace h := iteF hc12 h
    refine NWp.condF (t := (r10.2 != r11)) rfl hc12 ?_
    refine NWp.skip ?_
    refine NWp.opsJ ⟨tab [(3, .ptr 0 0 0), (5, .ptr 1 0 0), (7, .ptr 2 0 0), (8, .ptr 3 0 0), (10, vi r11)], stab [(0, .var [vl3 a1.Init, vi r9.Op, vi r9.F, vh r9.N, vl0 r9.Kids, vl2 a1.Rules]), (1, .var [vi r3.1.Op, vi r3.1.F, vh r3.1.N, vl0 r3.1.Kids]), (2, bv1 r9), (3, .var [vl3 r10.1.Init, vi r10.1.Pol.Op, vi r10.1.Pol.F, vh r10.1.Pol.N, vl0 r10.1.Pol.Kids, vl2 r10.1.Rules])], 4⟩ ?_ ?_
    ·
     refine step (v := vs0 r9) (st_ldV (ds := [.int .i64 r9.Op, .int .i64 r9.F, .int .u16 r9.N, eL (some 4) eapi_Pol r9.Kids]) rfl rfl (show 4 ≤ 4 by decide) rfl) ?_
     refine q1 (.ptr 0 0 1) ?_
     refine step (v := V.undef) (σ' := (upd (stab [(0, .var [vl3 a1.Init, vi r3.1.Op, vi r3.1.F, vh r3.1.N, vl0 r3.1.Kids, vl2 a1.Rules]), (1, .var [vi r3.1.Op, vi r3.1.F, vh r3.1.N, vl0 r3.1.Kids]), (2, bv1 r9), (3, .var [vl3 r10.1.Init, vi r10.1.Pol.Op, vi r10.1.Pol.F, vh r10.1.Pol.N, vl0 r10.1.Pol.Kids, vl2 r10.1.Rules])]) 0 (some (.var [vl3 a1.Init, vi r9.Op, vi r9.F, vh r9.N, vl0 r9.Kids, vl2 a1.Rules])))) (n' := 4) rfl ?_
     exact nR [0, 1, 2, 3]
    obtain ⟨y14, hv, h⟩ := bindE h
    refine NWp.seqN ⟨tab [(3, .ptr 0 0 0), (5, .ptr 1 0 0), (7, .ptr 2 0 0), (8, .ptr 3 0 0)], stab [(0, .var [vl3 y14.Init, vi y14.Pol.Op, vi y14.Pol.F, vh y14.Pol.N, vl0 y14.Pol.Kids, vl2 y14.Rules]), (1, .var [vi r3.1.Op, vi r3.1.F, vh r3.1.N, vl0 r3.1.Kids]), (2, bv1 r9), (3, .var [vl3 r10.1.Init, vi r10.1.Pol.Op, vi r10.1.Pol.F, vh r10.1.Pol.N, vl0 r10.1.Pol.Kids, vl2 r10.1.Rules])], 4⟩ ?_ ?_
    ·
     replace h := hv
     refine NWp.opsJ ⟨tab [(3, .ptr 0 0 0), (5, .ptr 1 0 0), (7, .ptr 2 0 0), (8, .ptr 3 0 0), (42, vb (r11 != 0))], stab [(0, .var [vl3 a1.Init, vi r9.Op, vi r9.F, vh r9.N, vl0 r9.Kids, vl2 a1.Rules]), (1, .var [vi r3.1.Op, vi r3.1.F, vh r3.1.N, vl0 r3.1.Kids]), (2, bv1 r9), (3, .var [vl3 r10.1.Init, vi r10.1.Pol.Op, vi r10.1.Pol.F, vh r10.1.Pol.N, vl0 r10.1.Pol.Kids, vl2 r10.1.Rules])], 4⟩ ?_ ?_
     ·
      refine q1 (vi r11) ?_
      refine q1 (vb (r11 != 0)) ?_
      exact nR [0, 1, 2, 3]
     by_cases hc13 : (r11 != 0) = true
     ·
      replace h := iteT hc13 h
      refine NWp.condT (t := (r11 != 0)) rfl hc13 ?_
      have hh := Option.some.inj h
      subst hh
      refine NWp.opsE ⟨tab [(3, .ptr 0 0 0), (5, .ptr 1 0 0), (7, .ptr 2 0 0), (8, .ptr 3 0 0)], stab [(0, .var [vl3 ((api_Program.mk [] (api_Pol.mk 0 0 0 []) []).Init), vi ((api_Program.mk [] (api_Pol.mk 0 0 0 []) []).Pol.Op), vi ((api_Program.mk [] (api_Pol.mk 0 0 0 []) []).Pol.F), vh ((api_Program.mk [] (api_Pol.mk 0 0 0 []) []).Pol.N), vl0 ((api_Program.mk [] (api_Pol.mk 0 0 0 []) []).Pol.Kids), vl2 ((api_Program.mk [] (api_Pol.mk 0 0 0 []) []).Rules)]), (1, .var [vi r3.1.Op, vi r3.1.F, vh r3.1.N, vl0 r3.1.Kids]), (2, bv1 r9), (3, .var [vl3 r10.1.Init, vi r10.1.Pol.Op, vi r10.1.Pol.F, vh r10.1.Pol.N, vl0 r10.1.Pol.Kids, vl2 r10.1.Rules])], 4⟩ ?_ ?_
      ·
       refine step (v := vs1 (api_Program.mk [] (api_Pol.mk 0 0 0 []) [])) (st_build (ds := [eL none (D.int .u16) [], .int .i64 0, .int .i64 0, .int .u16 0, eL (some 4) eapi_Pol [], eL (some 3) eapi_Rule []]) rfl) ?_
       refine step (v := V.undef) (σ' := (upd (stab [(0, .var [vl3 a1.Init, vi r9.Op, vi r9.F, vh r9.N, vl0 r9.Kids, vl2 a1.Rules]), (1, .var [vi r3.1.Op, vi r3.1.F, vh r3.1.N, vl0 r3.1.Kids]), (2, bv1 r9), (3, .var [vl3 r10.1.Init, vi r10.1.Pol.Op, vi r10.1.Pol.F, vh r10.1.Pol.N, vl0 r10.1.Pol.Kids, vl2 r10.1.Rules])]) 0 (some (bv4)))) (n' := 4) rfl ?_
       exact nR [0, 1, 2, 3]
      exact And.intro rfl rfl
     ·
      replace h := iteF hc13 h
      refine NWp.condF (t := (r11 != 0)) rfl hc13 ?_
      have hh := Option.some.inj h
      subst hh
      refine NWp.norm (s0 := ⟨tab [(3, .ptr 0 0 0), (5, .ptr 1 0 0), (7, .ptr 2 0 0), (8, .ptr 3 0 0)], stab [(0, .var [vl3 ((api_Program.mk a1.Init r9 a1.Rules).Init), vi ((api_Program.mk a1.Init r9 a1.Rules).Pol.Op), vi ((api_Program.mk a1.Init r9 a1.Rules).Pol.F), vh ((api_Program.mk a1.Init r9 a1.Rules).Pol.N), vl0 ((api_Program.mk a1.Init r9 a1.Rules).Pol.Kids), vl2 ((api_Program.mk a1.Init r9 a1.Rules).Rules)]), (1, .var [vi r3.1.Op, vi r3.1.F, vh r3.1.N, vl0 r3.1.Kids]), (2, bv1 r9), (3, .var [vl3 r10.1.Init, vi r10.1.Pol.Op, vi r10.1.Pol.F, vh r10.1.Pol.N, vl0 r10.1.Pol.Kids, vl2 r10.1.Rules])], 4⟩) (nr [0, 1, 2, 3]) ?_
      refine NWp.skip ?_
      exact And.intro rfl rfl
    obtain ⟨r16, hr16, h⟩ := bindE h
    obtain ⟨r17, hr17, h⟩ := bindE h
    obtain ⟨y23, hv, h⟩ := bindE h
    refine NWp.opsJ ⟨tab [(4, vb y23)], stab [], 0⟩ ?_ ?_
    ·
     refine step (v := vs0 r3.1) (st_ldV (ds := [.int .i64 r3.1.Op, .int .i64 r3.1.F, .int .u16 r3.1.N, eL (some 4) eapi_Pol r3.1.Kids]) rfl rfl (show 4 ≤ 4 by decide) rfl) ?_
     refine stepC (r := uapi_Pol r16) (ArgsOk.dt ArgsOk.nil') (c_trim_Trim hr16) ?_
     refine step (v := vs0 r9) (st_ldV (ds := [.int .i64 r9.Op, .int .i64 r9.F, .int .u16 r9.N, eL (some 4) eapi_Pol r9.Kids]) rfl rfl (show 4 ≤ 4 by decide) rfl) ?_
     refine stepC (r := .bool r17) (ArgsOk.dt (ArgsOk.dt ArgsOk.nil')) (c_ref05_SamePol hr17) ?_
     refine q1 (vb r17) ?_
     by_cases hg18 : r17 = true
     ·
      replace hv := iteT hg18 hv
      obtain ⟨r19, hr19, hv⟩ := bindE hv
      obtain ⟨r20, hr20, hv⟩ := bindE hv
      refine qG r17 hg18 ?_
      refine step (v := vs0 r3.1) (st_ldV (ds := [.int .i64 r3.1.Op, .int .i64 r3.1.F, .int .u16 r3.1.N, eL (some 4) eapi_Pol r3.1.Kids]) rfl rfl (show 4 ≤ 4 by decide) rfl) ?_
      refine qG r17 hg18 ?_
      refine stepC (r := .bool r19) (ArgsOk.dt ArgsOk.nil') (c_trim_Trimmed hr19) ?_
      refine qG r17 hg18 ?_
      refine step (v := vs0 r3.1) (st_ldV (ds := [.int .i64 r3.1.Op, .int .i64 r3.1.F, .int .u16 r3.1.N, eL (some 4) eapi_Pol r3.1.Kids]) rfl rfl (show 4 ≤ 4 by decide) rfl) ?_
      refine qG r17 hg18 ?_
      refine step (v := vs0 r9) (st_ldV (ds := [.int .i64 r9.Op, .int .i64 r9.F, .int .u16 r9.N, eL (some 4) eapi_Pol r9.Kids]) rfl rfl (show 4 ≤ 4 by decide) rfl) ?_
      refine qG r17 hg18 ?_
      refine stepC (r := .bool r20) (ArgsOk.dt (ArgsOk.dt ArgsOk.nil')) (c_ref05_SamePol hr20) ?_
      refine qG r17 hg18 ?_
      refine q1 (vb (r19 == r20)) ?_
      refine step (v := vb (r19 == r20)) (st_pickT (b := r17) rfl hg18 rfl) ?_
      refine q1 (vb (r19 == r20)) ?_
      by_cases hg21 : (r19 == r20) = true
      ·
       replace hv := iteT hg21 hv
       obtain ⟨r22, hr22, hv⟩ := bindE hv
       refine qG (r19 == r20) hg21 ?_
       refine step (v := vs1 y14) (st_ldV (ds := [eL none (D.int .u16) y14.Init, .int .i64 y14.Pol.Op, .int .i64 y14.Pol.F, .int .u16 y14.Pol.N, eL (some 4) eapi_Pol y14.Pol.Kids, eL (some 3) eapi_Rule y14.Rules]) rfl rfl (show 6 ≤ 6 by decide) rfl) ?_
       refine qG (r19 == r20) hg21 ?_
       refine step (v := vs1 r10.1) (st_ldV (ds := [eL none (D.int .u16) r10.1.Init, .int .i64 r10.1.Pol.Op, .int .i64 r10.1.Pol.F, .int .u16 r10.1.Pol.N, eL (some 4) eapi_Pol r10.1.Pol.Kids, eL (some 3) eapi_Rule r10.1.Rules]) rfl rfl (show 6 ≤ 6 by decide) rfl) ?_
       refine qG (r19 == r20) hg21 ?_
       refine stepC (r := .bool r22) (ArgsOk.dt (ArgsOk.dt ArgsOk.nil')) (c_ref05_Same hr22) ?_
       refine step (v := vb r22) (st_pickT (b := (r19 == r20)) rfl hg21 rfl) ?_
       refine q1 (vb r22) ?_
       have hh := Option.some.inj hv
       subst hh
       exact nR []
      ·
       replace hv := iteF hg21 hv
       refine qX (r19 == r20) hg21 ?_
       refine qX (r19 == r20) hg21 ?_
       refine qX (r19 == r20) hg21 ?_
       refine step (v := vb false) (st_pickF (b := (r19 == r20)) rfl hg21 rfl) ?_
       refine q1 (vb false) ?_
       have hh := Option.some.inj hv
       subst hh
       exact nR []
     ·
      replace hv := iteF hg18 hv
      refine qX r17 hg18 ?_
      refine qX r17 hg18 ?_
      refine qX r17 hg18 ?_
      refine qX r17 hg18 ?_
      refine qX r17 hg18 ?_
      refine qX r17 hg18 ?_
      refine step (v := vb false) (st_pickF (b := r17) rfl hg18 rfl) ?_
      refine q1 (vb false) ?_
      refine qX false (by decide) ?_
      refine qX false (by decide) ?_
      refine qX false (by decide) ?_
      refine step (v := vb false) (st_pickF (b := false) rfl (by decide) rfl) ?_
      refine q1 (vb false) ?_
      have hh := Option.some.inj hv
      subst hh
      exact nR []
    have hh := Option.some.inj h
    subst hh
    refine NWp.ret ?_
    show FQ _ _ _ _
    exact FQ.mk1 (.inr rfl) (res_t (v := vb y23) rfl rfl) (RV.d trivial)


end Go.AM
