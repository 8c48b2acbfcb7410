import Derived.Test.YtkgegocfjalcbaaDoorCzW1
/-  What they are in the program: walks. -/
set_option linter.unusedVariables false
set_option linter.unusedSimpArgs false
namespace Go.AM
open Go Go.RowKit Go.Proofs

attribute [local irreducible] RunOps RunOpsL
set_option maxHeartbeats 2000000

theorem c_ref21_Known {a0 : (List api_Step)} {a1 : (List Bool)} {r : Int} (h : ref21_Known a0 a1 = some r) : PCall Tryd.prog 15 [eL (some 18) eapi_Step a0, eL none D.bool a1] (.int .u64 r) := by
 refine PCall.introN ok15 (show 2 ≤ 26 by decide) ?_
 refine NWp.norm (s0 := ⟨tab [(0, vl0 a0), (1, .d (eL none D.bool a1))], stab [], 0⟩) (nr []) ?_
 refine NWp.opsJ ⟨tab [(0, vl0 a0), (1, .d (eL none D.bool a1))], stab [], 0⟩ ?_ ?_
 ·
  refine q1 _ ?_
  exact nR []
 refine NWp.opsJ ⟨tab [(0, vl0 a0), (1, .d (eL none D.bool a1)), (5, .d (.int .u64 0))], stab [], 0⟩ ?_ ?_
 ·
  refine q1 _ ?_
  exact nR []
 refine NWp.seq ?_
 refine NWp.opsJ ⟨tab [(0, vl0 a0), (1, .d (eL none D.bool a1)), (5, .d (.int .u64 0)), (6, vi 0)], stab [], 0⟩ ?_ ?_
 ·
  refine q1 _ ?_
  exact nR []
 obtain ⟨z13, hl, h⟩ := bindE h
 refine NWp.block ?_
 refine loop_forO (cntU (a1.length : Int)) (fun (i2 : Int) (qq : Int) => ⟨tab [(0, vl0 a0), (1, .d (eL none D.bool a1)), (5, .d (.int .u64 qq)), (6, vi i2)], stab [], 0⟩) 0 (fun (qq : Int) => ⟨tab [(5, .d (.int .u64 qq))], stab [], 0⟩) Low low_step hl (by unfold Low; omega) ?_ ?_ ?_
 ·
  rintro i2 i1 xr7 hinv5 hgo4 h
  show NWp _ _ _ _ _ ⟨tab [(0, vl0 a0), (1, .d (eL none D.bool a1)), (5, .d (.int .u64 i1)), (6, vi i2)], stab [], 0⟩
  have hc6 : decide (i2 < (a1.length : Int)) = true := decide_eq_true hgo4
  refine NWp.seq ?_
  refine NWp.opsJ ⟨tab [(0, vl0 a0), (1, .d (eL none D.bool a1)), (5, .d (.int .u64 i1)), (6, vi i2), (9, vi (a1.length : Int)), (10, vb (decide (i2 < (a1.length : Int))))], stab [], 0⟩ ?_ ?_
  ·
   iterate 2 refine q1 _ ?_
   refine step (v := vi (a1.length : Int)) (st_len (xs := a1) (e := D.bool) rfl) ?_
   refine q1 _ ?_
   exact nR []
  refine NWp.rng 9 rfl fun hB3 => ?_
  refine NWp.condT (t := decide (i2 < (a1.length : Int))) rfl hc6 ?_
  refine NWp.skip ?_
  obtain ⟨y11, hv, h⟩ := bindE h
  refine NWp.seqN ⟨tab [(0, vl0 a0), (1, .d (eL none D.bool a1)), (5, .d (.int .u64 y11)), (6, vi i2)], stab [], 0⟩ ?_ ?_
  ·
   replace h := hv
   refine NWp.block ?_
   obtain ⟨x8, hx8, h⟩ := bindE h
   refine NWp.opsJ ⟨tab [(0, vl0 a0), (1, .d (eL none D.bool a1)), (5, .d (.int .u64 i1)), (6, vi i2), (16, vb x8)], stab [], 0⟩ ?_ ?_
   ·
    iterate 2 refine q1 _ ?_
    refine step (v := .d (.cptr none (.bool x8) 0)) (st_iaddr (xs := a1) (e := D.bool) hx8 rfl rfl) ?_
    refine q1 _ ?_
    exact nR []
   by_cases hc9 : x8 = true
   ·
    replace h := iteT hc9 h
    refine NWp.condT (t := x8) rfl hc9 ?_
    obtain ⟨x10, hx10, h⟩ := bindE h
    have hh := Option.some.inj h
    subst hh
    refine NWp.opsE ⟨tab [(0, vl0 a0), (1, .d (eL none D.bool a1)), (5, .d (.int .u64 (orI .u64 i1 x10.Hop.New))), (6, vi i2)], stab [], 0⟩ ?_ ?_
    ·
     iterate 3 refine q1 _ ?_
     refine step (v := vp0 x10) (st_iaddr (xs := a0) (e := eapi_Step) hx10 rfl rfl) ?_
     iterate 5 refine q1 _ ?_
     exact nR []
    exact And.intro rfl rfl
   ·
    replace h := iteF hc9 h
    refine NWp.condF (t := x8) rfl hc9 ?_
    have hh := Option.some.inj h
    subst hh
    refine NWp.norm (s0 := ⟨tab [(0, vl0 a0), (1, .d (eL none D.bool a1)), (5, .d (.int .u64 i1)), (6, vi i2)], stab [], 0⟩) (nr []) ?_
    refine NWp.skip ?_
    exact And.intro rfl rfl
  have hh := Option.some.inj h
  subst hh
  refine NWp.opsE ⟨tab [(0, vl0 a0), (1, .d (eL none D.bool a1)), (5, .d (.int .u64 y11)), (6, vi (i2 + 1))], stab [], 0⟩ ?_ ?_
  ·
   refine q1 _ ?_
   refine step (v := vi (i2 + 1)) (st_inc (inc_ok hinv5 hgo4 hB3) rfl rfl) ?_
   refine q1 _ ?_
   exact nR []
  exact And.intro rfl rfl
 ·
  rintro i2 i1 hinv5 hgo4
  show NWp _ _ _ _ _ ⟨tab [(0, vl0 a0), (1, .d (eL none D.bool a1)), (5, .d (.int .u64 i1)), (6, vi i2)], stab [], 0⟩
  have hc6 : ¬ (decide (i2 < (a1.length : Int)) = true) := fun hq => hgo4 (of_decide_eq_true hq)
  refine NWp.seq ?_
  refine NWp.opsJ ⟨tab [(0, vl0 a0), (1, .d (eL none D.bool a1)), (5, .d (.int .u64 i1)), (6, vi i2), (10, vb (decide (i2 < (a1.length : Int))))], stab [], 0⟩ ?_ ?_
  ·
   iterate 2 refine q1 _ ?_
   refine step (v := vi (a1.length : Int)) (st_len (xs := a1) (e := D.bool) rfl) ?_
   refine q1 _ ?_
   exact nR []
  refine NWp.condF (t := decide (i2 < (a1.length : Int))) rfl hc6 ?_
  refine NWp.norm (s0 := ⟨tab [(5, .d (.int .u64 i1))], stab [], 0⟩) (nr []) ?_
  refine NWp.exit ?_
  exact And.intro rfl rfl
 refine NWp.opsJ ⟨tab [(4, .d (.int .u64 z13))], stab [], 0⟩ ?_ ?_
 ·
  iterate 2 refine q1 _ ?_
  exact nR []
 have hh := Option.some.inj h
 subst hh
 refine NWp.ret ?_
 show FQ _ _ _ _
 exact FQ.mk1 (.inr rfl) (res_t (v := .d (.int .u64 z13)) rfl rfl) (RV.d trivial)

theorem c_law21_same {a0 : (List api_Path)} {a1 : (List api_Step)} {a2 : Int} {r : Bool} (h : law21_same a0 a1 a2 = some r) : PCall Tryd.prog 7 [eL (some 6) eapi_Path a0, eL (some 18) eapi_Step a1, .int .i64 a2] (.bool r) := by
 refine PCall.introN ok7 (show 3 ≤ 119 by decide) ?_
 refine NWp.norm (s0 := ⟨tab [(0, vl1 a0), (1, vl0 a1), (2, vi a2)], stab [], 0⟩) (nr []) ?_
 refine NWp.opsJ ⟨tab [(0, vl1 a0), (1, vl0 a1), (2, vi a2)], stab [], 0⟩ ?_ ?_
 ·
  refine q1 _ ?_
  exact nR []
 obtain ⟨r1, hr1, h⟩ := bindE h
 refine NWp.opsJ ⟨tab [(0, vl1 a0), (1, vl0 a1), (2, vi a2), (7, .d (eL none (eL none (D.int .i64)) r1.1)), (8, vb r1.2)], stab [], 0⟩ ?_ ?_
 ·
  iterate 3 refine q1 _ ?_
  refine stepC (r := .tup [eL none (eL none (D.int .i64)) r1.1, .bool r1.2]) (ArgsOk.dt (ArgsOk.dt (ArgsOk.dt ArgsOk.nil'))) (c_cause_Ahead hr1) ?_
  iterate 5 refine q1 _ ?_
  exact nR []
 obtain ⟨r2, hr2, h⟩ := bindE h
 refine NWp.opsJ ⟨tab [(0, vl1 a0), (1, vl0 a1), (2, vi a2), (7, .d (eL none (eL none (D.int .i64)) r1.1)), (8, vb r1.2), (9, vl2 r2.1), (10, vb r2.2)], stab [], 0⟩ ?_ ?_
 ·
  iterate 3 refine q1 _ ?_
  refine stepC (r := .tup [eL none (D.int .u64) r2.1, .bool r2.2]) (ArgsOk.dt (ArgsOk.dt (ArgsOk.dt ArgsOk.nil'))) (c_cause_Known hr2) ?_
  iterate 5 refine q1 _ ?_
  exact nR []
 obtain ⟨r3, hr3, h⟩ := bindE h
 refine NWp.opsJ ⟨tab [(1, vl0 a1), (7, .d (eL none (eL none (D.int .i64)) r1.1)), (8, vb r1.2), (9, vl2 r2.1), (10, vb r2.2), (11, vl3 r3.1), (12, vb r3.2)], stab [], 0⟩ ?_ ?_
 ·
  iterate 3 refine q1 _ ?_
  refine stepC (r := .tup [eL none (eL none D.bool) r3.1, .bool r3.2]) (ArgsOk.dt (ArgsOk.dt (ArgsOk.dt ArgsOk.nil'))) (c_ref21_Ahead hr3) ?_
  iterate 5 refine q1 _ ?_
  exact nR []
 refine NWp.seq ?_
 refine NWp.opsJ ⟨tab [(1, vl0 a1), (7, .d (eL none (eL none (D.int .i64)) r1.1)), (9, vl2 r2.1), (11, vl3 r3.1), (59, vb ((!(r1.2 == r3.2)) || ((!(r2.2 == r3.2)) || (((r1.1.length : Int) != (r3.1.length : Int)) || ((r2.1.length : Int) != (r3.1.length : Int))))))], stab [], 0⟩ ?_ ?_
 ·
  iterate 4 refine q1 _ ?_
  by_cases hg4 : (!(r1.2 == r3.2)) = true
  ·
   iterate 3 refine qX (!(r1.2 == r3.2)) (by rw [hg4]; decide) ?_
   refine step (v := vb true) (st_pickT (b := (!(r1.2 == r3.2))) rfl hg4 rfl) ?_
   refine q1 _ ?_
   iterate 5 refine qX true (by decide) ?_
   refine step (v := vb true) (st_pickT (b := true) rfl rfl rfl) ?_
   refine q1 _ ?_
   iterate 5 refine qX true (by decide) ?_
   refine step (v := vb true) (st_pickT (b := true) rfl rfl rfl) ?_
   exact RunOps.nil' (nm [] ⟨.d _, .d _, .d _, .d _, .eq (by first | (simp [hg4]; done) | (simp_all; done) | grind), trivial⟩ trivial)
  ·
   refine qG (!(r1.2 == r3.2)) (Bool.eq_false_iff.2 hg4) ?_
   refine q1 _ ?_
   refine qG (!(r1.2 == r3.2)) (Bool.eq_false_iff.2 hg4) ?_
   refine q1 _ ?_
   refine qG (!(r1.2 == r3.2)) (Bool.eq_false_iff.2 hg4) ?_
   refine q1 _ ?_
   refine step (v := vb (!(r2.2 == r3.2))) (st_pickF (b := (!(r1.2 == r3.2))) rfl hg4 rfl) ?_
   refine q1 _ ?_
   by_cases hg5 : (!(r2.2 == r3.2)) = true
   ·
    iterate 5 refine qX (!(r2.2 == r3.2)) (by rw [hg5]; decide) ?_
    refine step (v := vb true) (st_pickT (b := (!(r2.2 == r3.2))) rfl hg5 rfl) ?_
    refine q1 _ ?_
    iterate 5 refine qX true (by decide) ?_
    refine step (v := vb true) (st_pickT (b := true) rfl rfl rfl) ?_
    exact RunOps.nil' (nm [] ⟨.d _, .d _, .d _, .d _, .eq (by first | (simp [hg4, hg5]; done) | (simp_all; done) | grind), trivial⟩ trivial)
   ·
    refine qG (!(r2.2 == r3.2)) (Bool.eq_false_iff.2 hg5) ?_
    refine q1 _ ?_
    refine qG (!(r2.2 == r3.2)) (Bool.eq_false_iff.2 hg5) ?_
    refine step (v := vi (r1.1.length : Int)) (st_len (xs := r1.1) (e := (eL none (D.int .i64))) rfl) ?_
    refine qG (!(r2.2 == r3.2)) (Bool.eq_false_iff.2 hg5) ?_
    refine q1 _ ?_
    refine qG (!(r2.2 == r3.2)) (Bool.eq_false_iff.2 hg5) ?_
    refine step (v := vi (r3.1.length : Int)) (st_len (xs := r3.1) (e := (eL none D.bool)) rfl) ?_
    refine qG (!(r2.2 == r3.2)) (Bool.eq_false_iff.2 hg5) ?_
    refine q1 _ ?_
    refine step (v := vb ((r1.1.length : Int) != (r3.1.length : Int))) (st_pickF (b := (!(r2.2 == r3.2))) rfl hg5 rfl) ?_
    refine q1 _ ?_
    by_cases hg6 : ((r1.1.length : Int) != (r3.1.length : Int)) = true
    ·
     iterate 5 refine qX ((r1.1.length : Int) != (r3.1.length : Int)) (by rw [hg6]; decide) ?_
     refine step (v := vb true) (st_pickT (b := ((r1.1.length : Int) != (r3.1.length : Int))) rfl hg6 rfl) ?_
     exact RunOps.nil' (nm [] ⟨.d _, .d _, .d _, .d _, .eq (by first | (simp [hg4, hg5, hg6]; done) | (simp_all; done) | grind), trivial⟩ trivial)
    ·
     refine qG ((r1.1.length : Int) != (r3.1.length : Int)) (Bool.eq_false_iff.2 hg6) ?_
     refine q1 _ ?_
     refine qG ((r1.1.length : Int) != (r3.1.length : Int)) (Bool.eq_false_iff.2 hg6) ?_
     refine step (v := vi (r2.1.length : Int)) (st_len (xs := r2.1) (e := (D.int .u64)) rfl) ?_
     refine qG ((r1.1.length : Int) != (r3.1.length : Int)) (Bool.eq_false_iff.2 hg6) ?_
     refine q1 _ ?_
     refine qG ((r1.1.length : Int) != (r3.1.length : Int)) (Bool.eq_false_iff.2 hg6) ?_
     refine step (v := vi (r3.1.length : Int)) (st_len (xs := r3.1) (e := (eL none D.bool)) rfl) ?_
     refine qG ((r1.1.length : Int) != (r3.1.length : Int)) (Bool.eq_false_iff.2 hg6) ?_
     refine q1 _ ?_
     refine step (v := vb ((r2.1.length : Int) != (r3.1.length : Int))) (st_pickF (b := ((r1.1.length : Int) != (r3.1.length : Int))) rfl hg6 rfl) ?_
     exact RunOps.nil' (nm [] ⟨.d _, .d _, .d _, .d _, .eq (by first | (simp [hg4, hg5, hg6]; done) | (simp_all; done) | grind), trivial⟩ trivial)
 by_cases hc7 : ((!(r1.2 == r3.2)) || ((!(r2.2 == r3.2)) || (((r1.1.length : Int) != (r3.1.length : Int)) || ((r2.1.length : Int) != (r3.1.length : Int))))) = true
 ·
  replace h := iteT hc7 h
  refine NWp.condT (t := ((!(r1.2 == r3.2)) || ((!(r2.2 == r3.2)) || (((r1.1.length : Int) != (r3.1.length : Int)) || ((r2.1.length : Int) != (r3.1.length : Int)))))) rfl hc7 ?_
  refine NWp.opsJ ⟨tab [(6, vb false)], stab [], 0⟩ ?_ ?_
  ·
   refine q1 _ ?_
   exact nR []
  have hh := Option.some.inj h
  subst hh
  refine NWp.ret ?_
  show FQ _ _ _ _
  exact FQ.mk1 (.inr rfl) (res_t (v := vb false) rfl rfl) (RV.d trivial)
 ·
  replace h := iteF hc7 h
  refine NWp.condF (t := ((!(r1.2 == r3.2)) || ((!(r2.2 == r3.2)) || (((r1.1.length : Int) != (r3.1.length : Int)) || ((r2.1.length : Int) != (r3.1.length : Int)))))) rfl hc7 ?_
  refine NWp.skip ?_
  refine NWp.seq ?_
  refine NWp.opsJ ⟨tab [(1, vl0 a1), (7, .d (eL none (eL none (D.int .i64)) r1.1)), (9, vl2 r2.1), (11, vl3 r3.1), (61, vi (r3.1.length : Int)), (62, vi 0)], stab [], 0⟩ ?_ ?_
  ·
   refine q1 _ ?_
   refine step (v := vi (r3.1.length : Int)) (st_len (xs := r3.1) (e := (eL none D.bool)) rfl) ?_
   refine q1 _ ?_
   exact nR []
  obtain ⟨q41, hl, h⟩ := bindE h
  refine NWp.block ?_
  refine loop_forR (cntU (r3.1.length : Int)) (fun (i8 : Int) (qq : Unit) => ⟨tab [(1, vl0 a1), (7, .d (eL none (eL none (D.int .i64)) r1.1)), (9, vl2 r2.1), (11, vl3 r3.1), (61, vi (r3.1.length : Int)), (62, vi i8)], stab [], 0⟩) 0 (fun (qq : Unit) => ⟨tab [], stab [], 0⟩) Low low_step (r := r) hl (by unfold Low; omega) ?_ ?_ ?_ ?_
  ·
   rintro i8 ⟨⟩ xr13 hinv11 hgo10 h
   show NWp _ _ _ _ _ ⟨tab [(1, vl0 a1), (7, .d (eL none (eL none (D.int .i64)) r1.1)), (9, vl2 r2.1), (11, vl3 r3.1), (61, vi (r3.1.length : Int)), (62, vi i8)], stab [], 0⟩
   have hc12 : decide (i8 < (r3.1.length : Int)) = true := decide_eq_true hgo10
   refine NWp.opsJ ⟨tab [(1, vl0 a1), (7, .d (eL none (eL none (D.int .i64)) r1.1)), (9, vl2 r2.1), (11, vl3 r3.1), (61, vi (r3.1.length : Int)), (62, vi i8), (63, vb (decide (i8 < (r3.1.length : Int))))], stab [], 0⟩ ?_ ?_
   ·
    refine q1 _ ?_
    exact nR []
   refine NWp.rng 61 rfl fun hB9 => ?_
   refine NWp.seq ?_
   refine NWp.condT (t := decide (i8 < (r3.1.length : Int))) rfl hc12 ?_
   refine NWp.skip ?_
   refine NWp.seq ?_
   refine NWp.block ?_
   refine NWp.opsJ ⟨tab [(1, vl0 a1), (7, .d (eL none (eL none (D.int .i64)) r1.1)), (9, vl2 r2.1), (11, vl3 r3.1), (13, vi i8), (61, vi (r3.1.length : Int)), (62, vi i8)], stab [], 0⟩ ?_ ?_
   ·
    iterate 2 refine q1 _ ?_
    exact nR []
   refine NWp.opsJ ⟨tab [(1, vl0 a1), (7, .d (eL none (eL none (D.int .i64)) r1.1)), (9, vl2 r2.1), (11, vl3 r3.1), (13, vi i8), (14, vi 0), (61, vi (r3.1.length : Int)), (62, vi i8)], stab [], 0⟩ ?_ ?_
   ·
    refine q1 _ ?_
    exact nR []
   refine NWp.seq ?_
   obtain ⟨x14, hx14, h⟩ := bindE h
   refine NWp.opsJ ⟨tab [(1, vl0 a1), (7, .d (eL none (eL none (D.int .i64)) r1.1)), (9, vl2 r2.1), (11, vl3 r3.1), (13, vi i8), (14, vi 0), (61, vi (r3.1.length : Int)), (62, vi i8), (68, .d (eL none D.bool x14)), (69, vi (x14.length : Int)), (70, vi 0)], stab [], 0⟩ ?_ ?_
   ·
    iterate 2 refine q1 _ ?_
    refine step (v := .d (.cptr none (eL none D.bool x14) 0)) (st_iaddr (xs := r3.1) (e := (eL none D.bool)) hx14 rfl rfl) ?_
    refine q1 _ ?_
    refine step (v := vi (x14.length : Int)) (st_len (xs := x14) (e := D.bool) rfl) ?_
    refine q1 _ ?_
    exact nR []
   obtain ⟨q40, hl, h⟩ := bindE h
   refine NWp.block ?_
   refine loop_forR (cntU (x14.length : Int)) (fun (i16 : Int) (qq : Int) => ⟨tab [(1, vl0 a1), (7, .d (eL none (eL none (D.int .i64)) r1.1)), (9, vl2 r2.1), (11, vl3 r3.1), (13, vi i8), (14, vi qq), (61, vi (r3.1.length : Int)), (62, vi i8), (68, .d (eL none D.bool x14)), (69, vi (x14.length : Int)), (70, vi i16)], stab [], 0⟩) 2 (fun (qq : Int) => ⟨tab [(1, vl0 a1), (7, .d (eL none (eL none (D.int .i64)) r1.1)), (9, vl2 r2.1), (11, vl3 r3.1), (13, vi i8), (14, vi qq), (61, vi (r3.1.length : Int)), (62, vi i8)], stab [], 0⟩) Low low_step (r := xr13) hl (by unfold Low; omega) ?_ ?_ ?_ ?_
   ·
    rintro i16 i15 xr21 hinv19 hgo18 h
    show NWp _ _ _ _ _ ⟨tab [(1, vl0 a1), (7, .d (eL none (eL none (D.int .i64)) r1.1)), (9, vl2 r2.1), (11, vl3 r3.1), (13, vi i8), (14, vi i15), (61, vi (r3.1.length : Int)), (62, vi i8), (68, .d (eL none D.bool x14)), (69, vi (x14.length : Int)), (70, vi i16)], stab [], 0⟩
    have hc20 : decide (i16 < (x14.length : Int)) = true := decide_eq_true hgo18
    refine NWp.opsJ ⟨tab [(1, vl0 a1), (7, .d (eL none (eL none (D.int .i64)) r1.1)), (9, vl2 r2.1), (11, vl3 r3.1), (13, vi i8), (14, vi i15), (61, vi (r3.1.length : Int)), (62, vi i8), (68, .d (eL none D.bool x14)), (69, vi (x14.length : Int)), (70, vi i16), (71, vb (decide (i16 < (x14.length : Int))))], stab [], 0⟩ ?_ ?_
    ·
     refine q1 _ ?_
     exact nR []
    refine NWp.rng 69 rfl fun hB17 => ?_
    refine NWp.seq ?_
    refine NWp.condT (t := decide (i16 < (x14.length : Int))) rfl hc20 ?_
    refine NWp.skip ?_
    obtain ⟨q31, hv, h⟩ := bindE h
    refine NWp.seqS (fun (qq : Int) => ⟨tab [(1, vl0 a1), (7, .d (eL none (eL none (D.int .i64)) r1.1)), (9, vl2 r2.1), (11, vl3 r3.1), (13, vi i8), (14, vi qq), (61, vi (r3.1.length : Int)), (62, vi i8), (68, .d (eL none D.bool x14)), (69, vi (x14.length : Int)), (70, vi i16)], stab [], 0⟩) (xv := q31) (r := xr21) ?_ ?_ ?_
    ·
     replace h := hv
     refine NWp.block ?_
     obtain ⟨x22, hx22, h⟩ := bindE h
     refine NWp.opsJ ⟨tab [(1, vl0 a1), (7, .d (eL none (eL none (D.int .i64)) r1.1)), (9, vl2 r2.1), (11, vl3 r3.1), (13, vi i8), (14, vi i15), (15, vi i16), (16, vb x22), (61, vi (r3.1.length : Int)), (62, vi i8), (68, .d (eL none D.bool x14)), (69, vi (x14.length : Int)), (70, vi i16)], stab [], 0⟩ ?_ ?_
     ·
      refine q1 _ ?_
      refine step (v := .d (.cptr none (.bool x22) 0)) (st_iaddr (xs := x14) (e := D.bool) hx22 rfl rfl) ?_
      iterate 3 refine q1 _ ?_
      exact nR []
     refine NWp.seq ?_
     refine NWp.opsJ ⟨tab [(1, vl0 a1), (7, .d (eL none (eL none (D.int .i64)) r1.1)), (9, vl2 r2.1), (11, vl3 r3.1), (13, vi i8), (14, vi i15), (15, vi i16), (61, vi (r3.1.length : Int)), (62, vi i8), (68, .d (eL none D.bool x14)), (69, vi (x14.length : Int)), (70, vi i16), (76, vb (!x22))], stab [], 0⟩ ?_ ?_
     ·
      iterate 2 refine q1 _ ?_
      exact nR []
     by_cases hc23 : (!x22) = true
     ·
      replace h := iteT hc23 h
      refine NWp.condT (t := (!x22)) rfl hc23 ?_
      have hh := Option.some.inj h
      subst hh
      refine NWp.norm (s0 := ⟨tab [(1, vl0 a1), (7, .d (eL none (eL none (D.int .i64)) r1.1)), (9, vl2 r2.1), (11, vl3 r3.1), (13, vi i8), (14, vi i15), (61, vi (r3.1.length : Int)), (62, vi i8), (68, .d (eL none D.bool x14)), (69, vi (x14.length : Int)), (70, vi i16)], stab [], 0⟩) (nr []) ?_
      refine NWp.exit ?_
      exact And.intro rfl rfl
     ·
      replace h := iteF hc23 h
      refine NWp.condF (t := (!x22)) rfl hc23 ?_
      refine NWp.skip ?_
      refine NWp.seq ?_
      obtain ⟨x24, hx24, h⟩ := bindE h
      obtain ⟨y27, hv, h⟩ := bindE h
      refine NWp.opsJ ⟨tab [(1, vl0 a1), (7, .d (eL none (eL none (D.int .i64)) r1.1)), (9, vl2 r2.1), (11, vl3 r3.1), (13, vi i8), (14, vi i15), (61, vi (r3.1.length : Int)), (62, vi i8), (68, .d (eL none D.bool x14)), (69, vi (x14.length : Int)), (70, vi i16), (94, vb y27)], stab [], 0⟩ ?_ ?_
      ·
       iterate 3 refine q1 _ ?_
       refine step (v := .d (.cptr none (eL none (D.int .i64) x24) 0)) (st_iaddr (xs := r1.1) (e := (eL none (D.int .i64))) hx24 rfl rfl) ?_
       refine q1 _ ?_
       refine step (v := vi (x24.length : Int)) (st_len (xs := x24) (e := (D.int .i64)) rfl) ?_
       iterate 2 refine q1 _ ?_
       by_cases hg25 : decide (i15 ≥ (x24.length : Int)) = true
       ·
        replace hv := iteT hg25 hv
        iterate 9 refine qX (decide (i15 ≥ (x24.length : Int))) (by rw [hg25]; decide) ?_
        refine step (v := vb true) (st_pickT (b := decide (i15 ≥ (x24.length : Int))) rfl hg25 rfl) ?_
        have hh := Option.some.inj hv
        subst hh
        exact nR []
       ·
        replace hv := iteF hg25 hv
        obtain ⟨x26, hx26, hv⟩ := bindE hv
        refine qG (decide (i15 ≥ (x24.length : Int))) (Bool.eq_false_iff.2 hg25) ?_
        refine q1 _ ?_
        refine qG (decide (i15 ≥ (x24.length : Int))) (Bool.eq_false_iff.2 hg25) ?_
        refine q1 _ ?_
        refine qG (decide (i15 ≥ (x24.length : Int))) (Bool.eq_false_iff.2 hg25) ?_
        refine step (v := .d (.cptr none (eL none (D.int .i64) x24) 0)) (st_iaddr (xs := r1.1) (e := (eL none (D.int .i64))) hx24 rfl rfl) ?_
        refine qG (decide (i15 ≥ (x24.length : Int))) (Bool.eq_false_iff.2 hg25) ?_
        refine q1 _ ?_
        refine qG (decide (i15 ≥ (x24.length : Int))) (Bool.eq_false_iff.2 hg25) ?_
        refine q1 _ ?_
        refine qG (decide (i15 ≥ (x24.length : Int))) (Bool.eq_false_iff.2 hg25) ?_
        refine step (v := .d (.cptr none (.int .i64 x26) 0)) (st_iaddr (xs := x24) (e := (D.int .i64)) hx26 rfl rfl) ?_
        refine qG (decide (i15 ≥ (x24.length : Int))) (Bool.eq_false_iff.2 hg25) ?_
        refine q1 _ ?_
        refine qG (decide (i15 ≥ (x24.length : Int))) (Bool.eq_false_iff.2 hg25) ?_
        refine q1 _ ?_
        refine qG (decide (i15 ≥ (x24.length : Int))) (Bool.eq_false_iff.2 hg25) ?_
        refine q1 _ ?_
        refine step (v := vb (x26 != i16)) (st_pickF (b := decide (i15 ≥ (x24.length : Int))) rfl hg25 rfl) ?_
        have hh := Option.some.inj hv
        subst hh
        exact nR []
      by_cases hc29 : y27 = true
      ·
       replace h := iteT hc29 h
       refine NWp.condT (t := y27) rfl hc29 ?_
       refine NWp.opsJ ⟨tab [(6, vb false)], stab [], 0⟩ ?_ ?_
       ·
        refine q1 _ ?_
        exact nR []
       obtain ⟨r30, kr30, hr⟩ := mapE (o := some (Br.ret (Br.ret false))) (g := Sum.inr) h
       subst hr
       have h := kr30
       obtain ⟨r31, kr31, hr⟩ := mapE (o := some (Br.ret false)) (g := Br.ret) h
       subst hr
       have h := kr31
       obtain ⟨r32, kr32, hr⟩ := mapE (o := some false) (g := Br.ret) h
       subst hr
       have h := kr32
       have hh := Option.some.inj h
       subst hh
       refine NWp.ret ?_
       refine And.intro (fun hn => nomatch hn) ?_
       intro hq
       have hq := hq.symm
       subst hq
       refine And.intro (fun hn => nomatch hn) ?_
       intro hq
       have hq := hq.symm
       subst hq
       refine And.intro (fun hn => nomatch hn) ?_
       intro hq
       have hq := hq.symm
       subst hq
       show FQ _ _ _ _
       exact FQ.mk1 (.inr rfl) (res_t (v := vb false) rfl rfl) (RV.d trivial)
      ·
       replace h := iteF hc29 h
       refine NWp.condF (t := y27) rfl hc29 ?_
       refine NWp.skip ?_
       have hh := Option.some.inj h
       subst hh
       refine NWp.opsE ⟨tab [(1, vl0 a1), (7, .d (eL none (eL none (D.int .i64)) r1.1)), (9, vl2 r2.1), (11, vl3 r3.1), (13, vi i8), (14, vi (IntKind.i64.wrap (i15 + 1))), (61, vi (r3.1.length : Int)), (62, vi i8), (68, .d (eL none D.bool x14)), (69, vi (x14.length : Int)), (70, vi i16)], stab [], 0⟩ ?_ ?_
       ·
        iterate 3 refine q1 _ ?_
        exact nR []
       exact And.intro rfl rfl
    ·
     intro r' hq
     subst hq
     exact Option.some.inj h
    rintro y30 rfl
    show NWp _ _ _ _ _ ⟨tab [(1, vl0 a1), (7, .d (eL none (eL none (D.int .i64)) r1.1)), (9, vl2 r2.1), (11, vl3 r3.1), (13, vi i8), (14, vi y30), (61, vi (r3.1.length : Int)), (62, vi i8), (68, .d (eL none D.bool x14)), (69, vi (x14.length : Int)), (70, vi i16)], stab [], 0⟩
    have hh := Option.some.inj h
    subst hh
    refine NWp.opsE ⟨tab [(1, vl0 a1), (7, .d (eL none (eL none (D.int .i64)) r1.1)), (9, vl2 r2.1), (11, vl3 r3.1), (13, vi i8), (14, vi y30), (61, vi (r3.1.length : Int)), (62, vi i8), (68, .d (eL none D.bool x14)), (69, vi (x14.length : Int)), (70, vi (i16 + 1))], stab [], 0⟩ ?_ ?_
    ·
     refine step (v := vi (i16 + 1)) (st_inc (inc_ok hinv19 hgo18 hB17) rfl rfl) ?_
     refine q1 _ ?_
     exact nR []
    exact And.intro rfl rfl
   ·
    rintro i16 i15 hinv19 hgo18
    show NWp _ _ _ _ _ ⟨tab [(1, vl0 a1), (7, .d (eL none (eL none (D.int .i64)) r1.1)), (9, vl2 r2.1), (11, vl3 r3.1), (13, vi i8), (14, vi i15), (61, vi (r3.1.length : Int)), (62, vi i8), (68, .d (eL none D.bool x14)), (69, vi (x14.length : Int)), (70, vi i16)], stab [], 0⟩
    have hc20 : ¬ (decide (i16 < (x14.length : Int)) = true) := fun hq => hgo18 (of_decide_eq_true hq)
    refine NWp.opsJ ⟨tab [(1, vl0 a1), (7, .d (eL none (eL none (D.int .i64)) r1.1)), (9, vl2 r2.1), (11, vl3 r3.1), (13, vi i8), (14, vi i15), (61, vi (r3.1.length : Int)), (62, vi i8), (68, .d (eL none D.bool x14)), (69, vi (x14.length : Int)), (70, vi i16), (71, vb (decide (i16 < (x14.length : Int))))], stab [], 0⟩ ?_ ?_
    ·
     refine q1 _ ?_
     exact nR []
    refine NWp.seq ?_
    refine NWp.condF (t := decide (i16 < (x14.length : Int))) rfl hc20 ?_
    refine NWp.norm (s0 := ⟨tab [(1, vl0 a1), (7, .d (eL none (eL none (D.int .i64)) r1.1)), (9, vl2 r2.1), (11, vl3 r3.1), (13, vi i8), (14, vi i15), (61, vi (r3.1.length : Int)), (62, vi i8)], stab [], 0⟩) (nr []) ?_
    refine NWp.exit ?_
    exact And.intro rfl rfl
   ·
    intro r' hq
    subst hq
    exact Option.some.inj h
   rintro z32 rfl
   obtain ⟨x33, hx33, h⟩ := bindE h
   obtain ⟨y37, hv, h⟩ := bindE h
   refine NWp.opsJ ⟨tab [(1, vl0 a1), (7, .d (eL none (eL none (D.int .i64)) r1.1)), (9, vl2 r2.1), (11, vl3 r3.1), (61, vi (r3.1.length : Int)), (62, vi i8), (117, vb y37)], stab [], 0⟩ ?_ ?_
   ·
    iterate 3 refine q1 _ ?_
    refine step (v := .d (.cptr none (eL none (D.int .i64) x33) 0)) (st_iaddr (xs := r1.1) (e := (eL none (D.int .i64))) hx33 rfl rfl) ?_
    refine q1 _ ?_
    refine step (v := vi (x33.length : Int)) (st_len (xs := x33) (e := (D.int .i64)) rfl) ?_
    iterate 2 refine q1 _ ?_
    by_cases hg34 : (z32 != (x33.length : Int)) = true
    ·
     replace hv := iteT hg34 hv
     iterate 11 refine qX (z32 != (x33.length : Int)) (by rw [hg34]; decide) ?_
     refine step (v := vb true) (st_pickT (b := (z32 != (x33.length : Int))) rfl hg34 rfl) ?_
     have hh := Option.some.inj hv
     subst hh
     exact nR []
    ·
     replace hv := iteF hg34 hv
     obtain ⟨x35, hx35, hv⟩ := bindE hv
     obtain ⟨r36, hr36, hv⟩ := bindE hv
     refine qG (z32 != (x33.length : Int)) (Bool.eq_false_iff.2 hg34) ?_
     refine q1 _ ?_
     refine qG (z32 != (x33.length : Int)) (Bool.eq_false_iff.2 hg34) ?_
     refine q1 _ ?_
     refine qG (z32 != (x33.length : Int)) (Bool.eq_false_iff.2 hg34) ?_
     refine step (v := .d (.cptr none (.int .u64 x35) 0)) (st_iaddr (xs := r2.1) (e := (D.int .u64)) hx35 rfl rfl) ?_
     refine qG (z32 != (x33.length : Int)) (Bool.eq_false_iff.2 hg34) ?_
     refine q1 _ ?_
     refine qG (z32 != (x33.length : Int)) (Bool.eq_false_iff.2 hg34) ?_
     refine q1 _ ?_
     refine qG (z32 != (x33.length : Int)) (Bool.eq_false_iff.2 hg34) ?_
     refine q1 _ ?_
     refine qG (z32 != (x33.length : Int)) (Bool.eq_false_iff.2 hg34) ?_
     refine q1 _ ?_
     refine qG (z32 != (x33.length : Int)) (Bool.eq_false_iff.2 hg34) ?_
     refine step (v := .d (.cptr none (eL none D.bool x14) 0)) (st_iaddr (xs := r3.1) (e := (eL none D.bool)) hx14 rfl rfl) ?_
     refine qG (z32 != (x33.length : Int)) (Bool.eq_false_iff.2 hg34) ?_
     refine q1 _ ?_
     refine qG (z32 != (x33.length : Int)) (Bool.eq_false_iff.2 hg34) ?_
     refine stepC (r := .int .u64 r36) (ArgsOk.dt (ArgsOk.dt ArgsOk.nil')) (c_ref21_Known hr36) ?_
     refine qG (z32 != (x33.length : Int)) (Bool.eq_false_iff.2 hg34) ?_
     refine q1 _ ?_
     refine step (v := vb (x35 != r36)) (st_pickF (b := (z32 != (x33.length : Int))) rfl hg34 rfl) ?_
     have hh := Option.some.inj hv
     subst hh
     exact nR []
   by_cases hc39 : y37 = true
   ·
    replace h := iteT hc39 h
    refine NWp.condT (t := y37) rfl hc39 ?_
    refine NWp.opsJ ⟨tab [(6, vb false)], stab [], 0⟩ ?_ ?_
    ·
     refine q1 _ ?_
     exact nR []
    obtain ⟨r40, kr40, hr⟩ := mapE (o := some false) (g := Br.ret) h
    subst hr
    have h := kr40
    have hh := Option.some.inj h
    subst hh
    refine NWp.ret ?_
    refine And.intro (fun hn => nomatch hn) ?_
    intro hq
    have hq := hq.symm
    subst hq
    show FQ _ _ _ _
    exact FQ.mk1 (.inr rfl) (res_t (v := vb false) rfl rfl) (RV.d trivial)
   ·
    replace h := iteF hc39 h
    refine NWp.condF (t := y37) rfl hc39 ?_
    refine NWp.skip ?_
    have hh := Option.some.inj h
    subst hh
    refine NWp.opsE ⟨tab [(1, vl0 a1), (7, .d (eL none (eL none (D.int .i64)) r1.1)), (9, vl2 r2.1), (11, vl3 r3.1), (61, vi (r3.1.length : Int)), (62, vi (i8 + 1))], stab [], 0⟩ ?_ ?_
    ·
     refine step (v := vi (i8 + 1)) (st_inc (inc_ok hinv11 hgo10 hB9) rfl rfl) ?_
     refine q1 _ ?_
     exact nR []
    exact And.intro rfl rfl
  ·
   rintro i8 ⟨⟩ hinv11 hgo10
   show NWp _ _ _ _ _ ⟨tab [(1, vl0 a1), (7, .d (eL none (eL none (D.int .i64)) r1.1)), (9, vl2 r2.1), (11, vl3 r3.1), (61, vi (r3.1.length : Int)), (62, vi i8)], stab [], 0⟩
   have hc12 : ¬ (decide (i8 < (r3.1.length : Int)) = true) := fun hq => hgo10 (of_decide_eq_true hq)
   refine NWp.opsJ ⟨tab [(1, vl0 a1), (7, .d (eL none (eL none (D.int .i64)) r1.1)), (9, vl2 r2.1), (11, vl3 r3.1), (61, vi (r3.1.length : Int)), (62, vi i8), (63, vb (decide (i8 < (r3.1.length : Int))))], stab [], 0⟩ ?_ ?_
   ·
    refine q1 _ ?_
    exact nR []
   refine NWp.seq ?_
   refine NWp.condF (t := decide (i8 < (r3.1.length : Int))) rfl hc12 ?_
   refine NWp.norm (s0 := ⟨tab [], stab [], 0⟩) (nr []) ?_
   refine NWp.exit ?_
   exact And.intro rfl rfl
  ·
   intro r' hq
   subst hq
   exact Option.some.inj h
  rintro ⟨⟩ rfl
  refine NWp.opsJ ⟨tab [(6, vb true)], stab [], 0⟩ ?_ ?_
  ·
   refine q1 _ ?_
   exact nR []
  have hh := Option.some.inj h
  subst hh
  refine NWp.ret ?_
  show FQ _ _ _ _
  exact FQ.mk1 (.inr rfl) (res_t (v := vb true) rfl rfl) (RV.d trivial)

theorem c_law21_CauseRaw {a0 : (List api_Path)} {a1 : (List api_Step)} {a2 : Int} {r : Bool} (h : law21_CauseRaw a0 a1 a2 = some r) : PCall Tryd.prog 3 [eL (some 6) eapi_Path a0, eL (some 18) eapi_Step a1, .int .i64 a2] (.bool r) := by
 refine PCall.introN ok3 (show 3 ≤ 49 by decide) ?_
 refine NWp.norm (s0 := ⟨tab [(0, vl1 a0), (1, vl0 a1), (2, vi a2)], stab [], 0⟩) (nr []) ?_
 refine NWp.opsJ ⟨tab [(0, vl1 a0), (1, vl0 a1), (2, vi a2)], stab [], 0⟩ ?_ ?_
 ·
  refine q1 _ ?_
  exact nR []
 refine NWp.seq ?_
 obtain ⟨r1, hr1, h⟩ := bindE h
 refine NWp.opsJ ⟨tab [(0, vl1 a0), (1, vl0 a1), (2, vi a2), (11, vb (!r1))], stab [], 0⟩ ?_ ?_
 ·
  refine stepC (r := .bool r1) ArgsOk.nil' (c_law21_awake hr1) ?_
  refine q1 _ ?_
  exact nR []
 by_cases hc2 : (!r1) = true
 ·
  replace h := iteT hc2 h
  refine NWp.condT (t := (!r1)) rfl hc2 ?_
  refine NWp.opsJ ⟨tab [(6, vb false)], stab [], 0⟩ ?_ ?_
  ·
   refine q1 _ ?_
   exact nR []
  have hh := Option.some.inj h
  subst hh
  refine NWp.ret ?_
  show FQ _ _ _ _
  exact FQ.mk1 (.inr rfl) (res_t (v := vb false) rfl rfl) (RV.d trivial)
 ·
  replace h := iteF hc2 h
  refine NWp.condF (t := (!r1)) rfl hc2 ?_
  refine NWp.skip ?_
  refine NWp.seq ?_
  refine NWp.opsJ ⟨tab [(0, vl1 a0), (1, vl0 a1), (2, vi a2), (19, vb ((decide ((a0.length : Int) > 8)) || (decide ((a1.length : Int) > 20))))], stab [], 0⟩ ?_ ?_
  ·
   refine q1 _ ?_
   refine step (v := vi (a0.length : Int)) (st_len (xs := a0) (e := eapi_Path) rfl) ?_
   iterate 2 refine q1 _ ?_
   by_cases hg3 : decide ((a0.length : Int) > 8) = true
   ·
    iterate 3 refine qX (decide ((a0.length : Int) > 8)) (by rw [hg3]; decide) ?_
    refine step (v := vb true) (st_pickT (b := decide ((a0.length : Int) > 8)) rfl hg3 rfl) ?_
    exact RunOps.nil' (nm [] ⟨.d _, .d _, .d _, .eq (by first | (simp [hg3]; done) | (simp_all; done) | grind), trivial⟩ trivial)
   ·
    refine qG (decide ((a0.length : Int) > 8)) (Bool.eq_false_iff.2 hg3) ?_
    refine q1 _ ?_
    refine qG (decide ((a0.length : Int) > 8)) (Bool.eq_false_iff.2 hg3) ?_
    refine step (v := vi (a1.length : Int)) (st_len (xs := a1) (e := eapi_Step) rfl) ?_
    refine qG (decide ((a0.length : Int) > 8)) (Bool.eq_false_iff.2 hg3) ?_
    refine q1 _ ?_
    refine step (v := vb (decide ((a1.length : Int) > 20))) (st_pickF (b := decide ((a0.length : Int) > 8)) rfl hg3 rfl) ?_
    exact RunOps.nil' (nm [] ⟨.d _, .d _, .d _, .eq (by first | (simp [hg3]; done) | (simp_all; done) | grind), trivial⟩ trivial)
  by_cases hc4 : ((decide ((a0.length : Int) > 8)) || (decide ((a1.length : Int) > 20))) = true
  ·
   replace h := iteT hc4 h
   refine NWp.condT (t := ((decide ((a0.length : Int) > 8)) || (decide ((a1.length : Int) > 20)))) rfl hc4 ?_
   refine NWp.opsJ ⟨tab [(6, vb true)], stab [], 0⟩ ?_ ?_
   ·
    refine q1 _ ?_
    exact nR []
   have hh := Option.some.inj h
   subst hh
   refine NWp.ret ?_
   show FQ _ _ _ _
   exact FQ.mk1 (.inr rfl) (res_t (v := vb true) rfl rfl) (RV.d trivial)
  ·
   replace h := iteF hc4 h
   refine NWp.condF (t := ((decide ((a0.length : Int) > 8)) || (decide ((a1.length : Int) > 20)))) rfl hc4 ?_
   refine NWp.skip ?_
   refine NWp.seq ?_
   refine NWp.opsJ ⟨tab [(0, vl1 a0), (1, vl0 a1), (2, vi a2), (20, vi 0)], stab [], 0⟩ ?_ ?_
   ·
    refine q1 _ ?_
    exact nR []
   obtain ⟨q29, hl, h⟩ := bindE h
   refine NWp.block ?_
   refine loop_forR (cntU 8) (fun (i5 : Int) (qq : Unit) => ⟨tab [(0, vl1 a0), (1, vl0 a1), (2, vi a2), (20, vi i5)], stab [], 0⟩) 0 (fun (qq : Unit) => ⟨tab [(0, vl1 a0), (1, vl0 a1), (2, vi a2)], stab [], 0⟩) Low low_step (r := r) hl (by unfold Low; omega) ?_ ?_ ?_ ?_
   ·
    rintro i5 ⟨⟩ xr10 hinv8 hgo7 h
    show NWp _ _ _ _ _ ⟨tab [(0, vl1 a0), (1, vl0 a1), (2, vi a2), (20, vi i5)], stab [], 0⟩
    have hc9 : decide (i5 < 8) = true := decide_eq_true hgo7
    refine NWp.opsJ ⟨tab [(0, vl1 a0), (1, vl0 a1), (2, vi a2), (20, vi i5), (21, vb (decide (i5 < 8)))], stab [], 0⟩ ?_ ?_
    ·
     refine q1 _ ?_
     exact nR []
    refine NWp.seq ?_
    refine NWp.condT (t := decide (i5 < 8)) rfl hc9 ?_
    refine NWp.skip ?_
    refine NWp.seq ?_
    refine NWp.block ?_
    refine NWp.opsJ ⟨tab [(0, vl1 a0), (1, vl0 a1), (2, vi a2), (7, vi i5), (20, vi i5)], stab [], 0⟩ ?_ ?_
    ·
     iterate 2 refine q1 _ ?_
     exact nR []
    refine NWp.opsJ ⟨tab [(0, vl1 a0), (1, vl0 a1), (2, vi a2), (7, vi i5), (8, vi (-1)), (20, vi i5)], stab [], 0⟩ ?_ ?_
    ·
     refine q1 _ ?_
     exact nR []
    refine NWp.seq ?_
    refine NWp.opsJ ⟨tab [(0, vl1 a0), (1, vl0 a1), (2, vi a2), (7, vi i5), (8, vi (-1)), (9, vi (IntKind.i64.wrap ((a1.length : Int) - 1))), (20, vi i5)], stab [], 0⟩ ?_ ?_
    ·
     refine q1 _ ?_
     refine step (v := vi (a1.length : Int)) (st_len (xs := a1) (e := eapi_Step) rfl) ?_
     iterate 2 refine q1 _ ?_
     exact nR []
    obtain ⟨z23, hl, h⟩ := bindE h
    refine NWp.rng 9 rfl fun hA27 => ?_
    refine NWp.block ?_
    refine loop_forO (cntD (-1)) (fun (i12 : Int) (qq : Int) => ⟨tab [(0, vl1 a0), (1, vl0 a1), (2, vi a2), (7, vi i5), (8, vi qq), (9, vi i12), (20, vi i5)], stab [], 0⟩) 2 (fun (qq : Int) => ⟨tab [(0, vl1 a0), (1, vl0 a1), (2, vi a2), (7, vi i5), (8, vi qq), (20, vi i5)], stab [], 0⟩) (fun i => IntKind.i64.wrap i = i) (fun i hi hg => dec_ok hg (by decide) hi) hl hA27 ?_ ?_ ?_
    ·
     rintro i12 i11 xr17 hinv15 hgo14 h
     show NWp _ _ _ _ _ ⟨tab [(0, vl1 a0), (1, vl0 a1), (2, vi a2), (7, vi i5), (8, vi i11), (9, vi i12), (20, vi i5)], stab [], 0⟩
     have hc16 : decide (i12 ≥ 0) = true := decide_eq_true (by omega)
     refine NWp.seq ?_
     refine NWp.opsJ ⟨tab [(0, vl1 a0), (1, vl0 a1), (2, vi a2), (7, vi i5), (8, vi i11), (9, vi i12), (20, vi i5), (27, vb (decide (i12 ≥ 0)))], stab [], 0⟩ ?_ ?_
     ·
      iterate 2 refine q1 _ ?_
      exact nR []
     refine NWp.condT (t := decide (i12 ≥ 0)) rfl hc16 ?_
     refine NWp.skip ?_
     obtain ⟨y21, hv, h⟩ := bindE h
     refine NWp.seqN ⟨tab [(0, vl1 a0), (1, vl0 a1), (2, vi a2), (7, vi i5), (8, vi y21), (9, vi i12), (20, vi i5)], stab [], 0⟩ ?_ ?_
     ·
      replace h := hv
      refine NWp.block ?_
      obtain ⟨x18, hx18, h⟩ := bindE h
      obtain ⟨r19, hr19, h⟩ := bindE h
      refine NWp.opsJ ⟨tab [(0, vl1 a0), (1, vl0 a1), (2, vi a2), (7, vi i5), (8, vi i11), (9, vi i12), (20, vi i5), (37, vb r19)], stab [], 0⟩ ?_ ?_
      ·
       iterate 2 refine q1 _ ?_
       refine step (v := vp0 x18) (st_iaddr (xs := a1) (e := eapi_Step) hx18 rfl rfl) ?_
       iterate 4 refine q1 _ ?_
       refine stepC (r := .bool r19) (ArgsOk.dt (ArgsOk.dt ArgsOk.nil')) (c_ref02_Has hr19) ?_
       exact nR []
      by_cases hc20 : r19 = true
      ·
       replace h := iteT hc20 h
       refine NWp.condT (t := r19) rfl hc20 ?_
       have hh := Option.some.inj h
       subst hh
       refine NWp.opsE ⟨tab [(0, vl1 a0), (1, vl0 a1), (2, vi a2), (7, vi i5), (8, vi i12), (9, vi i12), (20, vi i5)], stab [], 0⟩ ?_ ?_
       ·
        iterate 2 refine q1 _ ?_
        exact nR []
       exact And.intro rfl rfl
      ·
       replace h := iteF hc20 h
       refine NWp.condF (t := r19) rfl hc20 ?_
       have hh := Option.some.inj h
       subst hh
       refine NWp.norm (s0 := ⟨tab [(0, vl1 a0), (1, vl0 a1), (2, vi a2), (7, vi i5), (8, vi i11), (9, vi i12), (20, vi i5)], stab [], 0⟩) (nr []) ?_
       refine NWp.skip ?_
       exact And.intro rfl rfl
     have hh := Option.some.inj h
     subst hh
     refine NWp.opsE ⟨tab [(0, vl1 a0), (1, vl0 a1), (2, vi a2), (7, vi i5), (8, vi y21), (9, vi (i12 - 1)), (20, vi i5)], stab [], 0⟩ ?_ ?_
     ·
      refine q1 _ ?_
      refine step (v := vi (i12 - 1)) (st_dec (dec_ok hgo14 (by decide) hinv15) rfl rfl) ?_
      refine q1 _ ?_
      exact nR []
     exact And.intro rfl rfl
    ·
     rintro i12 i11 hinv15 hgo14
     show NWp _ _ _ _ _ ⟨tab [(0, vl1 a0), (1, vl0 a1), (2, vi a2), (7, vi i5), (8, vi i11), (9, vi i12), (20, vi i5)], stab [], 0⟩
     have hc16 : ¬ (decide (i12 ≥ 0) = true) := fun hq => hgo14 (by have := of_decide_eq_true hq; omega)
     refine NWp.seq ?_
     refine NWp.opsJ ⟨tab [(0, vl1 a0), (1, vl0 a1), (2, vi a2), (7, vi i5), (8, vi i11), (9, vi i12), (20, vi i5), (27, vb (decide (i12 ≥ 0)))], stab [], 0⟩ ?_ ?_
     ·
      iterate 2 refine q1 _ ?_
      exact nR []
     refine NWp.condF (t := decide (i12 ≥ 0)) rfl hc16 ?_
     refine NWp.norm (s0 := ⟨tab [(0, vl1 a0), (1, vl0 a1), (2, vi a2), (7, vi i5), (8, vi i11), (20, vi i5)], stab [], 0⟩) (nr []) ?_
     refine NWp.exit ?_
     exact And.intro rfl rfl
    obtain ⟨r24, hr24, h⟩ := bindE h
    refine NWp.opsJ ⟨tab [(0, vl1 a0), (1, vl0 a1), (2, vi a2), (20, vi i5), (43, vb (r24 != z23))], stab [], 0⟩ ?_ ?_
    ·
     iterate 2 refine q1 _ ?_
     refine stepC (r := .int .i64 r24) (ArgsOk.dt (ArgsOk.dt ArgsOk.nil')) (c_cause_First hr24) ?_
     iterate 2 refine q1 _ ?_
     exact nR []
    by_cases hc25 : (r24 != z23) = true
    ·
     replace h := iteT hc25 h
     refine NWp.condT (t := (r24 != z23)) rfl hc25 ?_
     refine NWp.opsJ ⟨tab [(6, vb false)], stab [], 0⟩ ?_ ?_
     ·
      refine q1 _ ?_
      exact nR []
     obtain ⟨r26, kr26, hr⟩ := mapE (o := some false) (g := Br.ret) h
     subst hr
     have h := kr26
     have hh := Option.some.inj h
     subst hh
     refine NWp.ret ?_
     refine And.intro (fun hn => nomatch hn) ?_
     intro hq
     have hq := hq.symm
     subst hq
     show FQ _ _ _ _
     exact FQ.mk1 (.inr rfl) (res_t (v := vb false) rfl rfl) (RV.d trivial)
    ·
     replace h := iteF hc25 h
     refine NWp.condF (t := (r24 != z23)) rfl hc25 ?_
     refine NWp.skip ?_
     have hh := Option.some.inj h
     subst hh
     refine NWp.opsE ⟨tab [(0, vl1 a0), (1, vl0 a1), (2, vi a2), (20, vi (i5 + 1))], stab [], 0⟩ ?_ ?_
     ·
      refine step (v := vi (i5 + 1)) (st_inc (inc_ok hinv8 hgo7 (by decide)) rfl rfl) ?_
      refine q1 _ ?_
      exact nR []
     exact And.intro rfl rfl
   ·
    rintro i5 ⟨⟩ hinv8 hgo7
    show NWp _ _ _ _ _ ⟨tab [(0, vl1 a0), (1, vl0 a1), (2, vi a2), (20, vi i5)], stab [], 0⟩
    have hc9 : ¬ (decide (i5 < 8) = true) := fun hq => hgo7 (of_decide_eq_true hq)
    refine NWp.opsJ ⟨tab [(0, vl1 a0), (1, vl0 a1), (2, vi a2), (20, vi i5), (21, vb (decide (i5 < 8)))], stab [], 0⟩ ?_ ?_
    ·
     refine q1 _ ?_
     exact nR []
    refine NWp.seq ?_
    refine NWp.condF (t := decide (i5 < 8)) rfl hc9 ?_
    refine NWp.norm (s0 := ⟨tab [(0, vl1 a0), (1, vl0 a1), (2, vi a2)], stab [], 0⟩) (nr []) ?_
    refine NWp.exit ?_
    exact And.intro rfl rfl
   ·
    intro r' hq
    subst hq
    exact Option.some.inj h
   rintro ⟨⟩ rfl
   obtain ⟨r28, hr28, h⟩ := bindE h
   refine NWp.opsJ ⟨tab [(6, vb r28)], stab [], 0⟩ ?_ ?_
   ·
    iterate 3 refine q1 _ ?_
    refine stepC (r := .bool r28) (ArgsOk.dt (ArgsOk.dt (ArgsOk.dt ArgsOk.nil'))) (c_law21_same hr28) ?_
    refine q1 _ ?_
    exact nR []
   have hh := Option.some.inj h
   subst hh
   refine NWp.ret ?_
   show FQ _ _ _ _
   exact FQ.mk1 (.inr rfl) (res_t (v := vb r28) rfl rfl) (RV.d trivial)


end Go.AM
