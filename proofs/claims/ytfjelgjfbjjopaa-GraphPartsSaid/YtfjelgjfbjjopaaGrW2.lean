import Derived.Test.YtfjelgjfbjjopaaGrW1
set_option linter.unusedVariables false
set_option linter.unusedSimpArgs false
namespace Go.AM
open Go Go.RowKit Go.Proofs
attribute [local irreducible] aK ct
set_option maxHeartbeats 2000000
theorem vR {a0 : api_Topo} {a1 : Int} {r : (List Int)} (h : gb a0 a1 = some r) : PCall Try.prog 31 [eapi_Topo a0, .int .i64 a1] (eL none (D.int .i64) r) := by
 refine PCall.introN uW (show 2 ≤ 16 by decide) ?_
 refine aW (s0 := ⟨tab [(0, vs1 a0), (1, vi a1)], ac [], 0⟩) (nr []) ?_
 refine ak ⟨tab [(1, vi a1), (2, am a0)], ac [], 0⟩ ?_ ?_
 ·
  iterate 2 refine q1 _ ?_
  exact nR []
 obtain ⟨r1, hr1, h⟩ := ap h
 refine ak ⟨tab [(1, vi a1), (5, .d (eL none (eL none (D.int .i64)) r1))], ac [], 0⟩ ?_ ?_
 ·
  refine q1 _ ?_
  refine bz (r := eL none (eL none (D.int .i64)) r1) (aL (aL aS.nil')) (gT hr1) ?_
  refine q1 _ ?_
  exact nR []
 refine aE ?_
 obtain ⟨r2, hr2, h⟩ := ap h
 refine ak ⟨tab [(1, vi a1), (5, .d (eL none (eL none (D.int .i64)) r1)), (11, vb (!r2))], ac [], 0⟩ ?_ ?_
 ·
  iterate 2 refine q1 _ ?_
  refine bz (r := .bool r2) (aL (aL aS.nil')) (iA hr2) ?_
  refine q1 _ ?_
  exact nR []
 by_cases hc3 : (!r2) = true
 ·
  replace h := bp hc3 h
  refine aZ (t := (!r2)) rfl hc3 ?_
  refine ak ⟨tab [(4, aw ([] : List Int))], ac [], 0⟩ ?_ ?_
  ·
   refine q1 _ ?_
   exact nR []
  have hh := aB h
  subst hh
  refine bB ?_
  show FQ _ _ _ _
  exact bR (.inr rfl) (bn (v := aw ([] : List Int)) rfl rfl) (RV.d trivial)
 ·
  replace h := bq hc3 h
  refine a8 (t := (!r2)) rfl hc3 ?_
  refine ba ?_
  obtain ⟨x4, hx4, h⟩ := ap h
  refine ak ⟨tab [(4, aw x4)], ac [], 0⟩ ?_ ?_
  ·
   iterate 2 refine q1 _ ?_
   refine step (v := .d (.cptr none (eL none (D.int .i64) x4) 0)) (bZ (xs := r1) (e := (eL none (D.int .i64))) hx4 rfl rfl) ?_
   iterate 2 refine q1 _ ?_
   exact nR []
  have hh := aB h
  subst hh
  refine bB ?_
  show FQ _ _ _ _
  exact bR (.inr rfl) (bn (v := aw x4) rfl rfl) (RV.d trivial)
theorem vS {a0 : api_Topo} {r : (List Int)} (h : jF a0 = some r) : PCall Try.prog 32 [eapi_Topo a0] (eL none (D.int .i64) r) := by
 refine PCall.introN u3 (show 1 ≤ 51 by decide) ?_
 refine aW (s0 := ⟨tab [(0, vs1 a0)], ac [], 0⟩) (nr []) ?_
 refine ak ⟨tab [(1, am a0)], ac [], 0⟩ ?_ ?_
 ·
  iterate 2 refine q1 _ ?_
  exact nR []
 obtain ⟨r1, hr1, h⟩ := ap h
 refine ak ⟨tab [(3, .d (eL none (eL none (D.int .i64)) r1))], ac [], 0⟩ ?_ ?_
 ·
  refine q1 _ ?_
  refine bz (r := eL none (eL none (D.int .i64)) r1) (aL (aL aS.nil')) (gT hr1) ?_
  refine q1 _ ?_
  exact nR []
 obtain ⟨l2, hl2, h⟩ := ap h
 refine ak ⟨tab [(3, .d (eL none (eL none (D.int .i64)) r1)), (4, .loc 0 0 l2.length)], ac [(0, .lst true none (List.map (D.int .i64) l2))], 1⟩ ?_ ?_
 ·
  refine q1 _ ?_
  refine step (v := vi (r1.length : Int)) (bH (xs := r1) (e := (eL none (D.int .i64))) rfl) ?_
  refine step (v := .loc 0 0 l2.length) (σ' := (aj (ac []) 0 (some (.lst true none (List.map (D.int .i64) l2))))) (n' := 1) (kg (e := (D.int .i64)) (z := 0) hl2 rfl rfl (kh hl2)) ?_
  refine q1 _ ?_
  exact nR [0]
 refine aE ?_
 refine ak ⟨tab [(3, .d (eL none (eL none (D.int .i64)) r1)), (4, .loc 0 0 l2.length), (15, vi (l2.length : Int)), (16, vi 0)], ac [(0, .lst true none (List.map (D.int .i64) l2))], 1⟩ ?_ ?_
 ·
  iterate 3 refine q1 _ ?_
  exact nR [0]
 obtain ⟨z12, hl, h⟩ := ap h
 refine be ?_
 refine dc (cg (l2.length : Int)) (fun (i4 : Int) (qq : (List Int)) => ⟨tab [(3, .d (eL none (eL none (D.int .i64)) r1)), (4, .loc 0 0 qq.length), (15, vi (l2.length : Int)), (16, vi i4)], ac [(0, .lst true none (List.map (D.int .i64) qq))], 1⟩) 0 (fun (qq : (List Int)) => ⟨tab [(3, .d (eL none (eL none (D.int .i64)) r1)), (4, .loc 0 0 qq.length)], ac [(0, .lst true none (List.map (D.int .i64) qq))], 1⟩) bg ck hl (by unfold bg; omega) ?_ ?_ ?_
 ·
  rintro i4 l3 xr9 hinv7 hgo6 h
  show aF _ _ _ _ _ ⟨tab [(3, .d (eL none (eL none (D.int .i64)) r1)), (4, .loc 0 0 l3.length), (15, vi (l2.length : Int)), (16, vi i4)], ac [(0, .lst true none (List.map (D.int .i64) l3))], 1⟩
  have hc8 : decide (i4 < (l2.length : Int)) = true := decide_eq_true hgo6
  refine ak ⟨tab [(3, .d (eL none (eL none (D.int .i64)) r1)), (4, .loc 0 0 l3.length), (15, vi (l2.length : Int)), (16, vi i4), (17, vb (decide (i4 < (l2.length : Int))))], ac [(0, .lst true none (List.map (D.int .i64) l3))], 1⟩ ?_ ?_
  ·
   refine q1 _ ?_
   exact nR [0]
  refine cf 15 rfl fun hB5 => ?_
  refine aE ?_
  refine aZ (t := decide (i4 < (l2.length : Int))) rfl hc8 ?_
  refine ba ?_
  refine aE ?_
  refine be ?_
  refine ak ⟨tab [(3, .d (eL none (eL none (D.int .i64)) r1)), (4, .loc 0 0 l3.length), (5, vi i4), (15, vi (l2.length : Int)), (16, vi i4)], ac [(0, .lst true none (List.map (D.int .i64) l3))], 1⟩ ?_ ?_
  ·
   iterate 2 refine q1 _ ?_
   exact nR [0]
  obtain ⟨x10, hx10, h⟩ := ap h
  obtain ⟨l11, hl11, h⟩ := ap h
  refine bw ⟨tab [(3, .d (eL none (eL none (D.int .i64)) r1)), (4, .loc 0 0 l11.length), (15, vi (l2.length : Int)), (16, vi i4)], ac [(0, .lst true none (List.map (D.int .i64) l11))], 1⟩ ?_ ?_
  ·
   iterate 2 refine q1 _ ?_
   refine step (v := .ptr 0 i4.toNat 0) (de (xs := l3) (e := (D.int .i64)) hx10 rfl rfl rfl rfl) ?_
   refine step (v := V.undef) (σ' := (aj (ac [(0, .lst true none (List.map (D.int .i64) l3))]) 0 (some (.lst true none (List.map (D.int .i64) l11))))) (n' := 1) (eY (e := (D.int .i64)) (v' := (-1)) hl11 rfl rfl rfl rfl rfl) ?_
   exact aK.nil' (nm [0] ⟨.d _, .le (id := 0) (eW hl11).symm (show 0 < 1 by decide), .d _, .d _, trivial⟩ ⟨⟨show 0 < 1 by decide, _, rfl, .lst _ _ _⟩, trivial⟩)
  have hh := aB h
  subst hh
  refine bw ⟨tab [(3, .d (eL none (eL none (D.int .i64)) r1)), (4, .loc 0 0 l11.length), (15, vi (l2.length : Int)), (16, vi (i4 + 1))], ac [(0, .lst true none (List.map (D.int .i64) l11))], 1⟩ ?_ ?_
  ·
   refine step (v := vi (i4 + 1)) (cd (ce hinv7 hgo6 hB5) rfl rfl) ?_
   refine q1 _ ?_
   exact nR [0]
  exact And.intro rfl rfl
 ·
  rintro i4 l3 hinv7 hgo6
  show aF _ _ _ _ _ ⟨tab [(3, .d (eL none (eL none (D.int .i64)) r1)), (4, .loc 0 0 l3.length), (15, vi (l2.length : Int)), (16, vi i4)], ac [(0, .lst true none (List.map (D.int .i64) l3))], 1⟩
  have hc8 : ¬ (decide (i4 < (l2.length : Int)) = true) := fun hq => hgo6 (of_decide_eq_true hq)
  refine ak ⟨tab [(3, .d (eL none (eL none (D.int .i64)) r1)), (4, .loc 0 0 l3.length), (15, vi (l2.length : Int)), (16, vi i4), (17, vb (decide (i4 < (l2.length : Int))))], ac [(0, .lst true none (List.map (D.int .i64) l3))], 1⟩ ?_ ?_
  ·
   refine q1 _ ?_
   exact nR [0]
  refine aE ?_
  refine a8 (t := decide (i4 < (l2.length : Int))) rfl hc8 ?_
  refine aW (s0 := ⟨tab [(3, .d (eL none (eL none (D.int .i64)) r1)), (4, .loc 0 0 l3.length)], ac [(0, .lst true none (List.map (D.int .i64) l3))], 1⟩) (nr [0]) ?_
  refine bQ ?_
  exact And.intro rfl rfl
 refine aE ?_
 refine ak ⟨tab [(3, .d (eL none (eL none (D.int .i64)) r1)), (4, .loc 0 0 z12.length), (24, vi (r1.length : Int)), (25, vi 0)], ac [(0, .lst true none (List.map (D.int .i64) z12))], 1⟩ ?_ ?_
 ·
  refine q1 _ ?_
  refine step (v := vi (r1.length : Int)) (bH (xs := r1) (e := (eL none (D.int .i64))) rfl) ?_
  refine q1 _ ?_
  exact nR [0]
 obtain ⟨z40, hl, h⟩ := ap h
 refine be ?_
 refine dc (cg (r1.length : Int)) (fun (i14 : Int) (qq : (List Int)) => ⟨tab [(3, .d (eL none (eL none (D.int .i64)) r1)), (4, .loc 0 0 qq.length), (24, vi (r1.length : Int)), (25, vi i14)], ac [(0, .lst true none (List.map (D.int .i64) qq))], 1⟩) 2 (fun (qq : (List Int)) => ⟨tab [(4, .loc 0 0 qq.length)], ac [(0, .lst true none (List.map (D.int .i64) qq))], 1⟩) bg ck hl (by unfold bg; omega) ?_ ?_ ?_
 ·
  rintro i14 l13 xr19 hinv17 hgo16 h
  show aF _ _ _ _ _ ⟨tab [(3, .d (eL none (eL none (D.int .i64)) r1)), (4, .loc 0 0 l13.length), (24, vi (r1.length : Int)), (25, vi i14)], ac [(0, .lst true none (List.map (D.int .i64) l13))], 1⟩
  have hc18 : decide (i14 < (r1.length : Int)) = true := decide_eq_true hgo16
  refine ak ⟨tab [(3, .d (eL none (eL none (D.int .i64)) r1)), (4, .loc 0 0 l13.length), (24, vi (r1.length : Int)), (25, vi i14), (26, vb (decide (i14 < (r1.length : Int))))], ac [(0, .lst true none (List.map (D.int .i64) l13))], 1⟩ ?_ ?_
  ·
   refine q1 _ ?_
   exact nR [0]
  refine cf 24 rfl fun hB15 => ?_
  refine aE ?_
  refine aZ (t := decide (i14 < (r1.length : Int))) rfl hc18 ?_
  refine ba ?_
  obtain ⟨l38, hv, h⟩ := ap h
  refine eV ⟨tab [(3, .d (eL none (eL none (D.int .i64)) r1)), (4, .loc 0 0 l38.length), (24, vi (r1.length : Int)), (25, vi i14)], ac [(0, .lst true none (List.map (D.int .i64) l38))], 1⟩ ?_ ?_
  ·
   replace h := hv
   refine be ?_
   refine ak ⟨tab [(3, .d (eL none (eL none (D.int .i64)) r1)), (4, .loc 0 0 l13.length), (6, vi i14), (24, vi (r1.length : Int)), (25, vi i14)], ac [(0, .lst true none (List.map (D.int .i64) l13))], 1⟩ ?_ ?_
   ·
    iterate 2 refine q1 _ ?_
    exact nR [0]
   refine aE ?_
   obtain ⟨x20, hx20, h⟩ := ap h
   refine ak ⟨tab [(3, .d (eL none (eL none (D.int .i64)) r1)), (4, .loc 0 0 l13.length), (6, vi i14), (24, vi (r1.length : Int)), (25, vi i14), (32, vb (decide (x20 ≥ 0)))], ac [(0, .lst true none (List.map (D.int .i64) l13))], 1⟩ ?_ ?_
   ·
    iterate 2 refine q1 _ ?_
    refine step (v := .ptr 0 i14.toNat 0) (de (xs := l13) (e := (D.int .i64)) hx20 rfl rfl rfl rfl) ?_
    refine step (v := vi x20) (eX (xs := l13) (e := (D.int .i64)) hx20 rfl rfl rfl) ?_
    refine q1 _ ?_
    exact nR [0]
   by_cases hc21 : decide (x20 ≥ 0) = true
   ·
    replace h := bp hc21 h
    refine aZ (t := decide (x20 ≥ 0)) rfl hc21 ?_
    have hh := aB h
    subst hh
    refine aW (s0 := ⟨tab [(3, .d (eL none (eL none (D.int .i64)) r1)), (4, .loc 0 0 l13.length), (24, vi (r1.length : Int)), (25, vi i14)], ac [(0, .lst true none (List.map (D.int .i64) l13))], 1⟩) (nr [0]) ?_
    refine bQ ?_
    exact And.intro rfl rfl
   ·
    replace h := bq hc21 h
    refine a8 (t := decide (x20 ≥ 0)) rfl hc21 ?_
    refine ba ?_
    obtain ⟨r22, hr22, h⟩ := ap h
    refine ak ⟨tab [(3, .d (eL none (eL none (D.int .i64)) r1)), (4, .loc 0 0 l13.length), (6, vi i14), (24, vi (r1.length : Int)), (25, vi i14), (35, aw r22), (36, vi (r22.length : Int)), (37, vi 0)], ac [(0, .lst true none (List.map (D.int .i64) l13))], 1⟩ ?_ ?_
    ·
     iterate 2 refine q1 _ ?_
     refine bz (r := eL none (D.int .i64) r22) (aL (aL aS.nil')) (jr hr22) ?_
     refine step (v := vi (r22.length : Int)) (bH (xs := r22) (e := (D.int .i64)) rfl) ?_
     refine q1 _ ?_
     exact nR [0]
    obtain ⟨z36, hl, h⟩ := ap h
    refine be ?_
    refine dc (cg (r22.length : Int)) (fun (i24 : Int) (qq : (List Int)) => ⟨tab [(3, .d (eL none (eL none (D.int .i64)) r1)), (4, .loc 0 0 qq.length), (6, vi i14), (24, vi (r1.length : Int)), (25, vi i14), (35, aw r22), (36, vi (r22.length : Int)), (37, vi i24)], ac [(0, .lst true none (List.map (D.int .i64) qq))], 1⟩) 4 (fun (qq : (List Int)) => ⟨tab [(3, .d (eL none (eL none (D.int .i64)) r1)), (4, .loc 0 0 qq.length), (24, vi (r1.length : Int)), (25, vi i14)], ac [(0, .lst true none (List.map (D.int .i64) qq))], 1⟩) bg ck hl (by unfold bg; omega) ?_ ?_ ?_
    ·
     rintro i24 l23 xr29 hinv27 hgo26 h
     show aF _ _ _ _ _ ⟨tab [(3, .d (eL none (eL none (D.int .i64)) r1)), (4, .loc 0 0 l23.length), (6, vi i14), (24, vi (r1.length : Int)), (25, vi i14), (35, aw r22), (36, vi (r22.length : Int)), (37, vi i24)], ac [(0, .lst true none (List.map (D.int .i64) l23))], 1⟩
     have hc28 : decide (i24 < (r22.length : Int)) = true := decide_eq_true hgo26
     refine ak ⟨tab [(3, .d (eL none (eL none (D.int .i64)) r1)), (4, .loc 0 0 l23.length), (6, vi i14), (24, vi (r1.length : Int)), (25, vi i14), (35, aw r22), (36, vi (r22.length : Int)), (37, vi i24), (38, vb (decide (i24 < (r22.length : Int))))], ac [(0, .lst true none (List.map (D.int .i64) l23))], 1⟩ ?_ ?_
     ·
      refine q1 _ ?_
      exact nR [0]
     refine cf 36 rfl fun hB25 => ?_
     refine aE ?_
     refine aZ (t := decide (i24 < (r22.length : Int))) rfl hc28 ?_
     refine ba ?_
     obtain ⟨l34, hv, h⟩ := ap h
     refine eV ⟨tab [(3, .d (eL none (eL none (D.int .i64)) r1)), (4, .loc 0 0 l34.length), (6, vi i14), (24, vi (r1.length : Int)), (25, vi i14), (35, aw r22), (36, vi (r22.length : Int)), (37, vi i24)], ac [(0, .lst true none (List.map (D.int .i64) l34))], 1⟩ ?_ ?_
     ·
      replace h := hv
      refine be ?_
      obtain ⟨x30, hx30, h⟩ := ap h
      refine ak ⟨tab [(3, .d (eL none (eL none (D.int .i64)) r1)), (4, .loc 0 0 l23.length), (6, vi i14), (7, vi i24), (8, vi x30), (24, vi (r1.length : Int)), (25, vi i14), (35, aw r22), (36, vi (r22.length : Int)), (37, vi i24)], ac [(0, .lst true none (List.map (D.int .i64) l23))], 1⟩ ?_ ?_
      ·
       refine q1 _ ?_
       refine step (v := .d (.cptr none (.int .i64 x30) 0)) (bZ (xs := r22) (e := (D.int .i64)) hx30 rfl rfl) ?_
       iterate 3 refine q1 _ ?_
       exact nR [0]
      refine ak ⟨tab [(3, .d (eL none (eL none (D.int .i64)) r1)), (4, .loc 0 0 l23.length), (6, vi i14), (7, vi i24), (24, vi (r1.length : Int)), (25, vi i14), (35, aw r22), (36, vi (r22.length : Int)), (37, vi i24), (43, vb (decide (x30 ≥ 0)))], ac [(0, .lst true none (List.map (D.int .i64) l23))], 1⟩ ?_ ?_
      ·
       iterate 2 refine q1 _ ?_
       exact nR [0]
      by_cases hc31 : decide (x30 ≥ 0) = true
      ·
       replace h := bp hc31 h
       refine aZ (t := decide (x30 ≥ 0)) rfl hc31 ?_
       obtain ⟨x32, hx32, h⟩ := ap h
       obtain ⟨l33, hl33, h⟩ := ap h
       have hh := aB h
       subst hh
       refine bw ⟨tab [(3, .d (eL none (eL none (D.int .i64)) r1)), (4, .loc 0 0 l33.length), (6, vi i14), (24, vi (r1.length : Int)), (25, vi i14), (35, aw r22), (36, vi (r22.length : Int)), (37, vi i24)], ac [(0, .lst true none (List.map (D.int .i64) l33))], 1⟩ ?_ ?_
       ·
        iterate 3 refine q1 _ ?_
        refine step (v := .ptr 0 i24.toNat 0) (de (xs := l23) (e := (D.int .i64)) hx32 rfl rfl rfl rfl) ?_
        refine step (v := V.undef) (σ' := (aj (ac [(0, .lst true none (List.map (D.int .i64) l23))]) 0 (some (.lst true none (List.map (D.int .i64) l33))))) (n' := 1) (eY (e := (D.int .i64)) (v' := i14) hl33 rfl rfl rfl rfl rfl) ?_
        exact aK.nil' (nm [0] ⟨.d _, .le (id := 0) (eW hl33).symm (show 0 < 1 by decide), .d _, .d _, .d _, .d _, .d _, .d _, trivial⟩ ⟨⟨show 0 < 1 by decide, _, rfl, .lst _ _ _⟩, trivial⟩)
       exact And.intro rfl rfl
      ·
       replace h := bq hc31 h
       refine a8 (t := decide (x30 ≥ 0)) rfl hc31 ?_
       have hh := aB h
       subst hh
       refine aW (s0 := ⟨tab [(3, .d (eL none (eL none (D.int .i64)) r1)), (4, .loc 0 0 l23.length), (6, vi i14), (24, vi (r1.length : Int)), (25, vi i14), (35, aw r22), (36, vi (r22.length : Int)), (37, vi i24)], ac [(0, .lst true none (List.map (D.int .i64) l23))], 1⟩) (nr [0]) ?_
       refine ba ?_
       exact And.intro rfl rfl
     have hh := aB h
     subst hh
     refine bw ⟨tab [(3, .d (eL none (eL none (D.int .i64)) r1)), (4, .loc 0 0 l34.length), (6, vi i14), (24, vi (r1.length : Int)), (25, vi i14), (35, aw r22), (36, vi (r22.length : Int)), (37, vi (i24 + 1))], ac [(0, .lst true none (List.map (D.int .i64) l34))], 1⟩ ?_ ?_
     ·
      refine step (v := vi (i24 + 1)) (cd (ce hinv27 hgo26 hB25) rfl rfl) ?_
      refine q1 _ ?_
      exact nR [0]
     exact And.intro rfl rfl
    ·
     rintro i24 l23 hinv27 hgo26
     show aF _ _ _ _ _ ⟨tab [(3, .d (eL none (eL none (D.int .i64)) r1)), (4, .loc 0 0 l23.length), (6, vi i14), (24, vi (r1.length : Int)), (25, vi i14), (35, aw r22), (36, vi (r22.length : Int)), (37, vi i24)], ac [(0, .lst true none (List.map (D.int .i64) l23))], 1⟩
     have hc28 : ¬ (decide (i24 < (r22.length : Int)) = true) := fun hq => hgo26 (of_decide_eq_true hq)
     refine ak ⟨tab [(3, .d (eL none (eL none (D.int .i64)) r1)), (4, .loc 0 0 l23.length), (6, vi i14), (24, vi (r1.length : Int)), (25, vi i14), (35, aw r22), (36, vi (r22.length : Int)), (37, vi i24), (38, vb (decide (i24 < (r22.length : Int))))], ac [(0, .lst true none (List.map (D.int .i64) l23))], 1⟩ ?_ ?_
     ·
      refine q1 _ ?_
      exact nR [0]
     refine aE ?_
     refine a8 (t := decide (i24 < (r22.length : Int))) rfl hc28 ?_
     refine aW (s0 := ⟨tab [(3, .d (eL none (eL none (D.int .i64)) r1)), (4, .loc 0 0 l23.length), (24, vi (r1.length : Int)), (25, vi i14)], ac [(0, .lst true none (List.map (D.int .i64) l23))], 1⟩) (nr [0]) ?_
     refine bQ ?_
     exact And.intro rfl rfl
    have hh := aB h
    subst hh
    exact And.intro rfl rfl
  have hh := aB h
  subst hh
  refine bw ⟨tab [(3, .d (eL none (eL none (D.int .i64)) r1)), (4, .loc 0 0 l38.length), (24, vi (r1.length : Int)), (25, vi (i14 + 1))], ac [(0, .lst true none (List.map (D.int .i64) l38))], 1⟩ ?_ ?_
  ·
   refine step (v := vi (i14 + 1)) (cd (ce hinv17 hgo16 hB15) rfl rfl) ?_
   refine q1 _ ?_
   exact nR [0]
  exact And.intro rfl rfl
 ·
  rintro i14 l13 hinv17 hgo16
  show aF _ _ _ _ _ ⟨tab [(3, .d (eL none (eL none (D.int .i64)) r1)), (4, .loc 0 0 l13.length), (24, vi (r1.length : Int)), (25, vi i14)], ac [(0, .lst true none (List.map (D.int .i64) l13))], 1⟩
  have hc18 : ¬ (decide (i14 < (r1.length : Int)) = true) := fun hq => hgo16 (of_decide_eq_true hq)
  refine ak ⟨tab [(3, .d (eL none (eL none (D.int .i64)) r1)), (4, .loc 0 0 l13.length), (24, vi (r1.length : Int)), (25, vi i14), (26, vb (decide (i14 < (r1.length : Int))))], ac [(0, .lst true none (List.map (D.int .i64) l13))], 1⟩ ?_ ?_
  ·
   refine q1 _ ?_
   exact nR [0]
  refine aE ?_
  refine a8 (t := decide (i14 < (r1.length : Int))) rfl hc18 ?_
  refine aW (s0 := ⟨tab [(4, .loc 0 0 l13.length)], ac [(0, .lst true none (List.map (D.int .i64) l13))], 1⟩) (nr [0]) ?_
  refine bQ ?_
  exact And.intro rfl rfl
 refine ak ⟨tab [(2, .loc 0 0 z40.length)], ac [(0, .lst true none (List.map (D.int .i64) z40))], 1⟩ ?_ ?_
 ·
  iterate 2 refine q1 _ ?_
  exact nR [0]
 have hh := aB h
 subst hh
 refine bB ?_
 show FQ _ _ _ _
 exact bR (.inr rfl) (bn (v := .loc 0 0 z40.length) rfl rfl) (RV.loc (xs := z40) (e := (D.int .i64)) rfl rfl trivial)
theorem vT {a0 : api_Topo} {a1 : Int} {r : (List Int)} (h : jG a0 a1 = some r) : PCall Try.prog 33 [eapi_Topo a0, .int .i64 a1] (eL none (D.int .i64) r) := by
 refine PCall.introN u6 (show 2 ≤ 47 by decide) ?_
 refine aW (s0 := ⟨tab [(0, vs1 a0), (1, vi a1)], ac [], 0⟩) (nr []) ?_
 refine ak ⟨tab [(1, vi a1), (2, am a0)], ac [], 0⟩ ?_ ?_
 ·
  iterate 2 refine q1 _ ?_
  exact nR []
 obtain ⟨r1, hr1, h⟩ := ap h
 refine ak ⟨tab [(1, vi a1), (2, am a0), (5, .d (eL none (eL none (D.int .i64)) r1))], ac [], 0⟩ ?_ ?_
 ·
  refine q1 _ ?_
  refine bz (r := eL none (eL none (D.int .i64)) r1) (aL (aL aS.nil')) (gT hr1) ?_
  refine q1 _ ?_
  exact nR []
 obtain ⟨l2, hl2, h⟩ := ap h
 refine ak ⟨tab [(1, vi a1), (2, am a0), (6, .loc 0 0 l2.length)], ac [(0, .lst true none (List.map (D.int .i64) l2))], 1⟩ ?_ ?_
 ·
  refine q1 _ ?_
  refine step (v := vi (r1.length : Int)) (bH (xs := r1) (e := (eL none (D.int .i64))) rfl) ?_
  refine step (v := .loc 0 0 l2.length) (σ' := (aj (ac []) 0 (some (.lst true none (List.map (D.int .i64) l2))))) (n' := 1) (kg (e := (D.int .i64)) (z := 0) hl2 rfl rfl (kh hl2)) ?_
  refine q1 _ ?_
  exact nR [0]
 refine aE ?_
 refine ak ⟨tab [(1, vi a1), (2, am a0), (6, .loc 0 0 l2.length), (16, vi (l2.length : Int)), (17, vi 0)], ac [(0, .lst true none (List.map (D.int .i64) l2))], 1⟩ ?_ ?_
 ·
  iterate 3 refine q1 _ ?_
  exact nR [0]
 obtain ⟨z20, hl, h⟩ := ap h
 refine be ?_
 refine dc (cg (l2.length : Int)) (fun (i4 : Int) (qq : (List Int)) => ⟨tab [(1, vi a1), (2, am a0), (6, .loc 0 0 qq.length), (16, vi (l2.length : Int)), (17, vi i4)], ac [(0, .lst true none (List.map (D.int .i64) qq))], 1⟩) 0 (fun (qq : (List Int)) => ⟨tab [(6, .loc 0 0 qq.length)], ac [(0, .lst true none (List.map (D.int .i64) qq))], 1⟩) bg ck hl (by unfold bg; omega) ?_ ?_ ?_
 ·
  rintro i4 l3 xr9 hinv7 hgo6 h
  show aF _ _ _ _ _ ⟨tab [(1, vi a1), (2, am a0), (6, .loc 0 0 l3.length), (16, vi (l2.length : Int)), (17, vi i4)], ac [(0, .lst true none (List.map (D.int .i64) l3))], 1⟩
  have hc8 : decide (i4 < (l2.length : Int)) = true := decide_eq_true hgo6
  refine ak ⟨tab [(1, vi a1), (2, am a0), (6, .loc 0 0 l3.length), (16, vi (l2.length : Int)), (17, vi i4), (18, vb (decide (i4 < (l2.length : Int))))], ac [(0, .lst true none (List.map (D.int .i64) l3))], 1⟩ ?_ ?_
  ·
   refine q1 _ ?_
   exact nR [0]
  refine cf 16 rfl fun hB5 => ?_
  refine aE ?_
  refine aZ (t := decide (i4 < (l2.length : Int))) rfl hc8 ?_
  refine ba ?_
  obtain ⟨l18, hv, h⟩ := ap h
  refine eV ⟨tab [(1, vi a1), (2, am a0), (6, .loc 0 0 l18.length), (16, vi (l2.length : Int)), (17, vi i4)], ac [(0, .lst true none (List.map (D.int .i64) l18))], 1⟩ ?_ ?_
  ·
   replace h := hv
   refine be ?_
   refine ak ⟨tab [(1, vi a1), (2, am a0), (6, .loc 0 0 l3.length), (7, vi i4), (16, vi (l2.length : Int)), (17, vi i4)], ac [(0, .lst true none (List.map (D.int .i64) l3))], 1⟩ ?_ ?_
   ·
    iterate 2 refine q1 _ ?_
    exact nR [0]
   obtain ⟨x10, hx10, h⟩ := ap h
   obtain ⟨l11, hl11, h⟩ := ap h
   refine ak ⟨tab [(1, vi a1), (2, am a0), (6, .loc 0 0 l11.length), (7, vi i4), (16, vi (l2.length : Int)), (17, vi i4)], ac [(0, .lst true none (List.map (D.int .i64) l11))], 1⟩ ?_ ?_
   ·
    iterate 2 refine q1 _ ?_
    refine step (v := .ptr 0 i4.toNat 0) (de (xs := l3) (e := (D.int .i64)) hx10 rfl rfl rfl rfl) ?_
    refine step (v := V.undef) (σ' := (aj (ac [(0, .lst true none (List.map (D.int .i64) l3))]) 0 (some (.lst true none (List.map (D.int .i64) l11))))) (n' := 1) (eY (e := (D.int .i64)) (v' := (-1)) hl11 rfl rfl rfl rfl rfl) ?_
    exact aK.nil' (nm [0] ⟨.d _, .d _, .le (id := 0) (eW hl11).symm (show 0 < 1 by decide), .d _, .d _, .d _, trivial⟩ ⟨⟨show 0 < 1 by decide, _, rfl, .lst _ _ _⟩, trivial⟩)
   obtain ⟨r12, hr12, h⟩ := ap h
   refine ak ⟨tab [(1, vi a1), (2, am a0), (6, .loc 0 0 l11.length), (7, vi i4), (8, aw r12.1), (9, vb r12.2), (16, vi (l2.length : Int)), (17, vi i4)], ac [(0, .lst true none (List.map (D.int .i64) l11))], 1⟩ ?_ ?_
   ·
    iterate 3 refine q1 _ ?_
    refine bz (r := .tup [eL none (D.int .i64) r12.1, .bool r12.2]) (aL (aL (aL aS.nil'))) (pH hr12) ?_
    iterate 5 refine q1 _ ?_
    exact nR [0]
   refine ak ⟨tab [(1, vi a1), (2, am a0), (6, .loc 0 0 l11.length), (7, vi i4), (8, aw r12.1), (16, vi (l2.length : Int)), (17, vi i4), (35, vb (r12.2 && (decide ((r12.1.length : Int) > 1))))], ac [(0, .lst true none (List.map (D.int .i64) l11))], 1⟩ ?_ ?_
   ·
    iterate 2 refine q1 _ ?_
    by_cases hg13 : r12.2 = true
    ·
     refine qG _ hg13 ?_
     refine q1 _ ?_
     refine qG _ hg13 ?_
     refine step (v := vi (r12.1.length : Int)) (bH (xs := r12.1) (e := (D.int .i64)) rfl) ?_
     refine qG _ hg13 ?_
     refine q1 _ ?_
     refine step (v := vb (decide ((r12.1.length : Int) > 1))) (bv (b := r12.2) rfl hg13 rfl) ?_
     exact aK.nil' (nm [0] ⟨.d _, .d _, .lc 0, .d _, .d _, .d _, .d _, .eq (by first | (simp [hg13]; done) | (simp_all; done) | grind), trivial⟩ ⟨⟨show 0 < 1 by decide, _, rfl, .lst _ _ _⟩, trivial⟩)
    ·
     iterate 3 refine qX _ hg13 ?_
     refine step (v := vb false) (bx (b := r12.2) rfl hg13 rfl) ?_
     exact aK.nil' (nm [0] ⟨.d _, .d _, .lc 0, .d _, .d _, .d _, .d _, .eq (by first | (simp [hg13]; done) | (simp_all; done) | grind), trivial⟩ ⟨⟨show 0 < 1 by decide, _, rfl, .lst _ _ _⟩, trivial⟩)
   by_cases hc14 : (r12.2 && (decide ((r12.1.length : Int) > 1))) = true
   ·
    replace h := bp hc14 h
    refine aZ (t := (r12.2 && (decide ((r12.1.length : Int) > 1)))) rfl hc14 ?_
    obtain ⟨x15, hx15, h⟩ := ap h
    obtain ⟨x16, hx16, h⟩ := ap h
    obtain ⟨l17, hl17, h⟩ := ap h
    have hh := aB h
    subst hh
    refine bw ⟨tab [(1, vi a1), (2, am a0), (6, .loc 0 0 l17.length), (16, vi (l2.length : Int)), (17, vi i4)], ac [(0, .lst true none (List.map (D.int .i64) l17))], 1⟩ ?_ ?_
    ·
     iterate 4 refine q1 _ ?_
     refine step (v := vi (r12.1.length : Int)) (bH (xs := r12.1) (e := (D.int .i64)) rfl) ?_
     refine q1 _ ?_
     refine step (v := .d (.cptr none (.int .i64 x15) 0)) (bZ (xs := r12.1) (e := (D.int .i64)) hx15 rfl rfl) ?_
     refine q1 _ ?_
     refine step (v := .ptr 0 i4.toNat 0) (de (xs := l11) (e := (D.int .i64)) hx16 rfl rfl rfl rfl) ?_
     refine step (v := V.undef) (σ' := (aj (ac [(0, .lst true none (List.map (D.int .i64) l11))]) 0 (some (.lst true none (List.map (D.int .i64) l17))))) (n' := 1) (eY (e := (D.int .i64)) (v' := x15) hl17 rfl rfl rfl rfl rfl) ?_
     exact aK.nil' (nm [0] ⟨.d _, .d _, .le (id := 0) (eW hl17).symm (show 0 < 1 by decide), .d _, .d _, trivial⟩ ⟨⟨show 0 < 1 by decide, _, rfl, .lst _ _ _⟩, trivial⟩)
    exact And.intro rfl rfl
   ·
    replace h := bq hc14 h
    refine a8 (t := (r12.2 && (decide ((r12.1.length : Int) > 1)))) rfl hc14 ?_
    have hh := aB h
    subst hh
    refine aW (s0 := ⟨tab [(1, vi a1), (2, am a0), (6, .loc 0 0 l11.length), (16, vi (l2.length : Int)), (17, vi i4)], ac [(0, .lst true none (List.map (D.int .i64) l11))], 1⟩) (nr [0]) ?_
    refine ba ?_
    exact And.intro rfl rfl
  have hh := aB h
  subst hh
  refine bw ⟨tab [(1, vi a1), (2, am a0), (6, .loc 0 0 l18.length), (16, vi (l2.length : Int)), (17, vi (i4 + 1))], ac [(0, .lst true none (List.map (D.int .i64) l18))], 1⟩ ?_ ?_
  ·
   refine step (v := vi (i4 + 1)) (cd (ce hinv7 hgo6 hB5) rfl rfl) ?_
   refine q1 _ ?_
   exact nR [0]
  exact And.intro rfl rfl
 ·
  rintro i4 l3 hinv7 hgo6
  show aF _ _ _ _ _ ⟨tab [(1, vi a1), (2, am a0), (6, .loc 0 0 l3.length), (16, vi (l2.length : Int)), (17, vi i4)], ac [(0, .lst true none (List.map (D.int .i64) l3))], 1⟩
  have hc8 : ¬ (decide (i4 < (l2.length : Int)) = true) := fun hq => hgo6 (of_decide_eq_true hq)
  refine ak ⟨tab [(1, vi a1), (2, am a0), (6, .loc 0 0 l3.length), (16, vi (l2.length : Int)), (17, vi i4), (18, vb (decide (i4 < (l2.length : Int))))], ac [(0, .lst true none (List.map (D.int .i64) l3))], 1⟩ ?_ ?_
  ·
   refine q1 _ ?_
   exact nR [0]
  refine aE ?_
  refine a8 (t := decide (i4 < (l2.length : Int))) rfl hc8 ?_
  refine aW (s0 := ⟨tab [(6, .loc 0 0 l3.length)], ac [(0, .lst true none (List.map (D.int .i64) l3))], 1⟩) (nr [0]) ?_
  refine bQ ?_
  exact And.intro rfl rfl
 refine ak ⟨tab [(4, .loc 0 0 z20.length)], ac [(0, .lst true none (List.map (D.int .i64) z20))], 1⟩ ?_ ?_
 ·
  iterate 2 refine q1 _ ?_
  exact nR [0]
 have hh := aB h
 subst hh
 refine bB ?_
 show FQ _ _ _ _
 exact bR (.inr rfl) (bn (v := .loc 0 0 z20.length) rfl rfl) (RV.loc (xs := z20) (e := (D.int .i64)) rfl rfl trivial)
theorem vU {a0 : (List Int)} {r : Int} (h : jI a0 = some r) : PCall Try.prog 62 [eL none (D.int .i64) a0] (.int .i64 r) := by
 refine PCall.introN va (show 1 ≤ 25 by decide) ?_
 refine aW (s0 := ⟨tab [(0, aw a0)], ac [], 0⟩) (nr []) ?_
 refine ak ⟨tab [(0, aw a0)], ac [], 0⟩ ?_ ?_
 ·
  refine q1 _ ?_
  exact nR []
 refine aE ?_
 refine ak ⟨tab [(0, aw a0), (7, vb (decide ((a0.length : Int) < 1)))], ac [], 0⟩ ?_ ?_
 ·
  refine q1 _ ?_
  refine step (v := vi (a0.length : Int)) (bH (xs := a0) (e := (D.int .i64)) rfl) ?_
  refine q1 _ ?_
  exact nR []
 by_cases hc1 : decide ((a0.length : Int) < 1) = true
 ·
  replace h := bp hc1 h
  refine aZ (t := decide ((a0.length : Int) < 1)) rfl hc1 ?_
  cases h
 ·
  replace h := bq hc1 h
  refine a8 (t := decide ((a0.length : Int) < 1)) rfl hc1 ?_
  refine ba ?_
  obtain ⟨x2, hx2, h⟩ := ap h
  refine ak ⟨tab [(0, aw a0), (3, vi x2)], ac [], 0⟩ ?_ ?_
  ·
   refine q1 _ ?_
   refine step (v := .d (.cptr none (.int .i64 x2) 0)) (bZ (xs := a0) (e := (D.int .i64)) hx2 rfl rfl) ?_
   iterate 2 refine q1 _ ?_
   exact nR []
  refine aE ?_
  refine ak ⟨tab [(0, aw a0), (3, vi x2), (4, vi 1)], ac [], 0⟩ ?_ ?_
  ·
   refine q1 _ ?_
   exact nR []
  obtain ⟨z11, hl, h⟩ := ap h
  refine be ?_
  refine dc (cg (a0.length : Int)) (fun (i4 : Int) (qq : Int) => ⟨tab [(0, aw a0), (3, vi qq), (4, vi i4)], ac [], 0⟩) 0 (fun (qq : Int) => ⟨tab [(3, vi qq)], ac [], 0⟩) bg ck hl (by unfold bg; omega) ?_ ?_ ?_
  ·
   rintro i4 i3 xr9 hinv7 hgo6 h
   show aF _ _ _ _ _ ⟨tab [(0, aw a0), (3, vi i3), (4, vi i4)], ac [], 0⟩
   have hc8 : decide (i4 < (a0.length : Int)) = true := decide_eq_true hgo6
   refine aE ?_
   refine ak ⟨tab [(0, aw a0), (3, vi i3), (4, vi i4), (14, vi (a0.length : Int)), (15, vb (decide (i4 < (a0.length : Int))))], ac [], 0⟩ ?_ ?_
   ·
    iterate 2 refine q1 _ ?_
    refine step (v := vi (a0.length : Int)) (bH (xs := a0) (e := (D.int .i64)) rfl) ?_
    refine q1 _ ?_
    exact nR []
   refine cf 14 rfl fun hB5 => ?_
   refine aZ (t := decide (i4 < (a0.length : Int))) rfl hc8 ?_
   refine ba ?_
   refine aE ?_
   refine be ?_
   obtain ⟨x10, hx10, h⟩ := ap h
   refine bw ⟨tab [(0, aw a0), (3, vi (bO i3 x10)), (4, vi i4)], ac [], 0⟩ ?_ ?_
   ·
    iterate 3 refine q1 _ ?_
    refine step (v := .d (.cptr none (.int .i64 x10) 0)) (bZ (xs := a0) (e := (D.int .i64)) hx10 rfl rfl) ?_
    iterate 3 refine q1 _ ?_
    exact nR []
   have hh := aB h
   subst hh
   refine bw ⟨tab [(0, aw a0), (3, vi (bO i3 x10)), (4, vi (i4 + 1))], ac [], 0⟩ ?_ ?_
   ·
    refine q1 _ ?_
    refine step (v := vi (i4 + 1)) (cd (ce hinv7 hgo6 hB5) rfl rfl) ?_
    refine q1 _ ?_
    exact nR []
   exact And.intro rfl rfl
  ·
   rintro i4 i3 hinv7 hgo6
   show aF _ _ _ _ _ ⟨tab [(0, aw a0), (3, vi i3), (4, vi i4)], ac [], 0⟩
   have hc8 : ¬ (decide (i4 < (a0.length : Int)) = true) := fun hq => hgo6 (of_decide_eq_true hq)
   refine aE ?_
   refine ak ⟨tab [(0, aw a0), (3, vi i3), (4, vi i4), (15, vb (decide (i4 < (a0.length : Int))))], ac [], 0⟩ ?_ ?_
   ·
    iterate 2 refine q1 _ ?_
    refine step (v := vi (a0.length : Int)) (bH (xs := a0) (e := (D.int .i64)) rfl) ?_
    refine q1 _ ?_
    exact nR []
   refine a8 (t := decide (i4 < (a0.length : Int))) rfl hc8 ?_
   refine aW (s0 := ⟨tab [(3, vi i3)], ac [], 0⟩) (nr []) ?_
   refine bQ ?_
   exact And.intro rfl rfl
  refine ak ⟨tab [(2, vi z11)], ac [], 0⟩ ?_ ?_
  ·
   iterate 2 refine q1 _ ?_
   exact nR []
  have hh := aB h
  subst hh
  refine bB ?_
  show FQ _ _ _ _
  exact bR (.inr rfl) (bn (v := vi z11) rfl rfl) (RV.d trivial)
theorem vV {a0 : api_Topo} {r : Int} (h : jJ a0 = some r) : PCall Try.prog 36 [eapi_Topo a0] (.int .i64 r) := by
 refine PCall.introN ve (show 1 ≤ 21 by decide) ?_
 refine aW (s0 := ⟨tab [(0, vs1 a0)], ac [], 0⟩) (nr []) ?_
 refine ak ⟨tab [(1, am a0)], ac [], 0⟩ ?_ ?_
 ·
  iterate 2 refine q1 _ ?_
  exact nR []
 obtain ⟨r1, hr1, h⟩ := ap h
 refine ak ⟨tab [(3, .d (eL none (eL none (D.int .i64)) r1))], ac [], 0⟩ ?_ ?_
 ·
  refine q1 _ ?_
  refine bz (r := eL none (eL none (D.int .i64)) r1) (aL (aL aS.nil')) (gT hr1) ?_
  refine q1 _ ?_
  exact nR []
 refine ak ⟨tab [(3, .d (eL none (eL none (D.int .i64)) r1)), (4, vi 0)], ac [], 0⟩ ?_ ?_
 ·
  refine q1 _ ?_
  exact nR []
 refine aE ?_
 refine ak ⟨tab [(3, .d (eL none (eL none (D.int .i64)) r1)), (4, vi 0), (9, vi (r1.length : Int)), (10, vi 0)], ac [], 0⟩ ?_ ?_
 ·
  refine q1 _ ?_
  refine step (v := vi (r1.length : Int)) (bH (xs := r1) (e := (eL none (D.int .i64))) rfl) ?_
  refine q1 _ ?_
  exact nR []
 obtain ⟨z11, hl, h⟩ := ap h
 refine be ?_
 refine dc (cg (r1.length : Int)) (fun (i3 : Int) (qq : Int) => ⟨tab [(3, .d (eL none (eL none (D.int .i64)) r1)), (4, vi qq), (9, vi (r1.length : Int)), (10, vi i3)], ac [], 0⟩) 0 (fun (qq : Int) => ⟨tab [(4, vi qq)], ac [], 0⟩) bg ck hl (by unfold bg; omega) ?_ ?_ ?_
 ·
  rintro i3 i2 xr8 hinv6 hgo5 h
  show aF _ _ _ _ _ ⟨tab [(3, .d (eL none (eL none (D.int .i64)) r1)), (4, vi i2), (9, vi (r1.length : Int)), (10, vi i3)], ac [], 0⟩
  have hc7 : decide (i3 < (r1.length : Int)) = true := decide_eq_true hgo5
  refine ak ⟨tab [(3, .d (eL none (eL none (D.int .i64)) r1)), (4, vi i2), (9, vi (r1.length : Int)), (10, vi i3), (11, vb (decide (i3 < (r1.length : Int))))], ac [], 0⟩ ?_ ?_
  ·
   refine q1 _ ?_
   exact nR []
  refine cf 9 rfl fun hB4 => ?_
  refine aE ?_
  refine aZ (t := decide (i3 < (r1.length : Int))) rfl hc7 ?_
  refine ba ?_
  refine aE ?_
  refine be ?_
  refine ak ⟨tab [(3, .d (eL none (eL none (D.int .i64)) r1)), (4, vi i2), (5, vi i3), (9, vi (r1.length : Int)), (10, vi i3)], ac [], 0⟩ ?_ ?_
  ·
   iterate 2 refine q1 _ ?_
   exact nR []
  obtain ⟨r9, hr9, h⟩ := ap h
  obtain ⟨r10, hr10, h⟩ := ap h
  refine bw ⟨tab [(3, .d (eL none (eL none (D.int .i64)) r1)), (4, vi (bO i2 r10)), (9, vi (r1.length : Int)), (10, vi i3)], ac [], 0⟩ ?_ ?_
  ·
   iterate 3 refine q1 _ ?_
   refine bz (r := eL none (D.int .i64) r9) (aL (aL aS.nil')) (jr hr9) ?_
   refine bz (r := .int .i64 r10) (aL aS.nil') (vU hr10) ?_
   iterate 2 refine q1 _ ?_
   exact nR []
  have hh := aB h
  subst hh
  refine bw ⟨tab [(3, .d (eL none (eL none (D.int .i64)) r1)), (4, vi (bO i2 r10)), (9, vi (r1.length : Int)), (10, vi (i3 + 1))], ac [], 0⟩ ?_ ?_
  ·
   refine step (v := vi (i3 + 1)) (cd (ce hinv6 hgo5 hB4) rfl rfl) ?_
   refine q1 _ ?_
   exact nR []
  exact And.intro rfl rfl
 ·
  rintro i3 i2 hinv6 hgo5
  show aF _ _ _ _ _ ⟨tab [(3, .d (eL none (eL none (D.int .i64)) r1)), (4, vi i2), (9, vi (r1.length : Int)), (10, vi i3)], ac [], 0⟩
  have hc7 : ¬ (decide (i3 < (r1.length : Int)) = true) := fun hq => hgo5 (of_decide_eq_true hq)
  refine ak ⟨tab [(3, .d (eL none (eL none (D.int .i64)) r1)), (4, vi i2), (9, vi (r1.length : Int)), (10, vi i3), (11, vb (decide (i3 < (r1.length : Int))))], ac [], 0⟩ ?_ ?_
  ·
   refine q1 _ ?_
   exact nR []
  refine aE ?_
  refine a8 (t := decide (i3 < (r1.length : Int))) rfl hc7 ?_
  refine aW (s0 := ⟨tab [(4, vi i2)], ac [], 0⟩) (nr []) ?_
  refine bQ ?_
  exact And.intro rfl rfl
 refine ak ⟨tab [(2, vi z11)], ac [], 0⟩ ?_ ?_
 ·
  iterate 2 refine q1 _ ?_
  exact nR []
 have hh := aB h
 subst hh
 refine bB ?_
 show FQ _ _ _ _
 exact bR (.inr rfl) (bn (v := vi z11) rfl rfl) (RV.d trivial)
theorem c_law29_GraphParts {a0 : api_Topo} {a1 : Int} {r : Bool} (h : law29_GraphParts a0 a1 = some r) : PCall Try.prog 9 [eapi_Topo a0, .int .i64 a1] (.bool r) := by
 refine PCall.introN vo (show 2 ≤ 166 by decide) ?_
 refine aW (s0 := ⟨tab [(0, vs1 a0), (1, vi a1)], ac [], 0⟩) (nr []) ?_
 refine ak ⟨tab [(1, vi a1), (2, am a0)], ac [], 0⟩ ?_ ?_
 ·
  iterate 2 refine q1 _ ?_
  exact nR []
 refine aE ?_
 obtain ⟨r1, hr1, h⟩ := ap h
 refine ak ⟨tab [(1, vi a1), (2, am a0), (22, vb (!r1))], ac [], 0⟩ ?_ ?_
 ·
  refine bz (r := .bool r1) aS.nil' (vN hr1) ?_
  refine q1 _ ?_
  exact nR []
 by_cases hc2 : (!r1) = true
 ·
  replace h := bp hc2 h
  refine aZ (t := (!r1)) rfl hc2 ?_
  refine ak ⟨tab [(4, vb false)], ac [], 0⟩ ?_ ?_
  ·
   refine q1 _ ?_
   exact nR []
  have hh := aB h
  subst hh
  refine bB ?_
  show FQ _ _ _ _
  exact bR (.inr rfl) (bn (v := vb false) rfl rfl) (RV.d trivial)
 ·
  replace h := bq hc2 h
  refine a8 (t := (!r1)) rfl hc2 ?_
  refine ba ?_
  refine aE ?_
  obtain ⟨r3, hr3, h⟩ := ap h
  refine ak ⟨tab [(1, vi a1), (2, am a0), (25, vb (r3 != 0))], ac [], 0⟩ ?_ ?_
  ·
   refine q1 _ ?_
   refine bz (r := .int .i64 r3) (aL aS.nil') (vP hr3) ?_
   refine q1 _ ?_
   exact nR []
  by_cases hc4 : (r3 != 0) = true
  ·
   replace h := bp hc4 h
   refine aZ (t := (r3 != 0)) rfl hc4 ?_
   refine ak ⟨tab [(4, vb true)], ac [], 0⟩ ?_ ?_
   ·
    refine q1 _ ?_
    exact nR []
   have hh := aB h
   subst hh
   refine bB ?_
   show FQ _ _ _ _
   exact bR (.inr rfl) (bn (v := vb true) rfl rfl) (RV.d trivial)
  ·
   replace h := bq hc4 h
   refine a8 (t := (r3 != 0)) rfl hc4 ?_
   refine ba ?_
   refine ak ⟨tab [(1, vi a1), (2, am a0), (5, vi (a0.Switches.length : Int))], ac [], 0⟩ ?_ ?_
   ·
    iterate 2 refine q1 _ ?_
    refine step (v := vi (a0.Switches.length : Int)) (bH (xs := a0.Switches) (e := (D.int .u16)) rfl) ?_
    refine q1 _ ?_
    exact nR []
   refine ak ⟨tab [(1, vi a1), (2, am a0), (5, vi (a0.Switches.length : Int)), (6, .d (.nils))], ac [], 0⟩ ?_ ?_
   ·
    refine q1 _ ?_
    exact nR []
   refine aE ?_
   refine ak ⟨tab [(1, vi a1), (2, am a0), (5, vi (a0.Switches.length : Int)), (6, .d (.nils)), (7, vi 0)], ac [], 0⟩ ?_ ?_
   ·
    refine q1 _ ?_
    exact nR []
   obtain ⟨z21, hl, h⟩ := ap h
   refine aW (s0 := ⟨tab [(1, vi a1), (2, am a0), (5, vi (a0.Switches.length : Int)), (6, .loc 0 0 (([] : List Int).length)), (7, vi 0)], ac [(0, .lst false none (List.map (D.int .i64) ([] : List Int)))], 1⟩) (bu.trans (s2 := ⟨tab [(1, vi a1), (2, am a0), (5, vi (a0.Switches.length : Int)), (6, .loc 0 0 (([] : List Int).length)), (7, vi 0)], ac [(0, .lst false none (List.map (D.int .i64) ([] : List Int)))], 1⟩) (ki 6 false none rfl) (nr [0])) ?_
   refine be ?_
   refine dc (cg (a0.Switches.length : Int)) (fun (i6 : Int) (qq : (List Int)) => ⟨tab [(1, vi a1), (2, am a0), (5, vi (a0.Switches.length : Int)), (6, .loc 0 0 qq.length), (7, vi i6)], ac [(0, .lst false none (List.map (D.int .i64) qq))], 1⟩) 0 (fun (qq : (List Int)) => ⟨tab [(1, vi a1), (2, am a0), (5, vi (a0.Switches.length : Int)), (6, .loc 0 0 qq.length)], ac [(0, .lst false none (List.map (D.int .i64) qq))], 1⟩) bg ck hl (by unfold bg; omega) ?_ ?_ ?_
   ·
    rintro i6 l5 xr11 hinv9 hgo8 h
    show aF _ _ _ _ _ ⟨tab [(1, vi a1), (2, am a0), (5, vi (a0.Switches.length : Int)), (6, .loc 0 0 l5.length), (7, vi i6)], ac [(0, .lst false none (List.map (D.int .i64) l5))], 1⟩
    have hc10 : decide (i6 < (a0.Switches.length : Int)) = true := decide_eq_true hgo8
    refine aE ?_
    refine ak ⟨tab [(1, vi a1), (2, am a0), (5, vi (a0.Switches.length : Int)), (6, .loc 0 0 l5.length), (7, vi i6), (30, vi (a0.Switches.length : Int)), (31, vb (decide (i6 < (a0.Switches.length : Int))))], ac [(0, .lst false none (List.map (D.int .i64) l5))], 1⟩ ?_ ?_
    ·
     iterate 3 refine q1 _ ?_
     exact nR [0]
    refine cf 30 rfl fun hB7 => ?_
    refine aZ (t := decide (i6 < (a0.Switches.length : Int))) rfl hc10 ?_
    refine ba ?_
    obtain ⟨l19, hv, h⟩ := ap h
    refine eV ⟨tab [(1, vi a1), (2, am a0), (5, vi (a0.Switches.length : Int)), (6, .loc 0 0 l19.length), (7, vi i6)], ac [(0, .lst false none (List.map (D.int .i64) l19))], 1⟩ ?_ ?_
    ·
     replace h := hv
     refine be ?_
     obtain ⟨y15, hv, h⟩ := ap h
     refine ak ⟨tab [(1, vi a1), (2, am a0), (5, vi (a0.Switches.length : Int)), (6, .loc 0 0 l5.length), (7, vi i6), (46, vb y15)], ac [(0, .lst false none (List.map (D.int .i64) l5))], 1⟩ ?_ ?_
     ·
      iterate 3 refine q1 _ ?_
      by_cases hg12 : decide (a1 ≥ 0) = true
      ·
       replace hv := bp hg12 hv
       refine qG _ hg12 ?_
       refine q1 _ ?_
       refine qG _ hg12 ?_
       refine q1 _ ?_
       refine qG _ hg12 ?_
       refine q1 _ ?_
       refine step (v := vb (decide (a1 < (a0.Switches.length : Int)))) (bv (b := decide (a1 ≥ 0)) rfl hg12 rfl) ?_
       refine q1 _ ?_
       by_cases hg13 : decide (a1 < (a0.Switches.length : Int)) = true
       ·
        replace hv := bp hg13 hv
        obtain ⟨r14, hr14, hv⟩ := ap hv
        refine qG _ hg13 ?_
        refine q1 _ ?_
        refine qG _ hg13 ?_
        refine q1 _ ?_
        refine qG _ hg13 ?_
        refine q1 _ ?_
        refine qG _ hg13 ?_
        refine bz (r := .bool r14) (aL (aL (aL (aL aS.nil')))) (mO hr14) ?_
        refine step (v := vb r14) (bv (b := decide (a1 < (a0.Switches.length : Int))) rfl hg13 rfl) ?_
        have hh := aB hv
        subst hh
        exact nR [0]
       ·
        replace hv := bq hg13 hv
        iterate 4 refine qX _ hg13 ?_
        refine step (v := vb false) (bx (b := decide (a1 < (a0.Switches.length : Int))) rfl hg13 rfl) ?_
        have hh := aB hv
        subst hh
        exact nR [0]
      ·
       replace hv := bq hg12 hv
       iterate 3 refine qX _ hg12 ?_
       refine step (v := vb false) (bx (b := decide (a1 ≥ 0)) rfl hg12 rfl) ?_
       refine q1 _ ?_
       iterate 4 refine qX false (by decide) ?_
       refine step (v := vb false) (bx (b := false) rfl (by decide) rfl) ?_
       have hh := aB hv
       subst hh
       exact nR [0]
     by_cases hc17 : y15 = true
     ·
      replace h := bp hc17 h
      refine aZ (t := y15) rfl hc17 ?_
      obtain ⟨l18, hl18, h⟩ := ap h
      have hh := aB h
      subst hh
      refine bw ⟨tab [(1, vi a1), (2, am a0), (5, vi (a0.Switches.length : Int)), (6, .loc 0 0 l18.length), (7, vi i6)], ac [(0, .lst false none (List.map (D.int .i64) l18))], 1⟩ ?_ ?_
      ·
       iterate 3 refine q1 _ ?_
       refine step (v := .loc 1 0 l18.length) (σ' := (aj (aj (ac [(0, .lst false none (List.map (D.int .i64) l5))]) 0 none) 1 (some (.lst false none (List.map (D.int .i64) l18))))) (n' := 2) (gM (xs := l5) (ys := ([i6] : List Int)) (e := (D.int .i64)) hl18 rfl rfl rfl (gL (xs := ([i6] : List Int)) (e := (D.int .i64)) rfl)) ?_
       refine q1 _ ?_
       exact nR [1]
      exact And.intro rfl rfl
     ·
      replace h := bq hc17 h
      refine a8 (t := y15) rfl hc17 ?_
      have hh := aB h
      subst hh
      refine aW (s0 := ⟨tab [(1, vi a1), (2, am a0), (5, vi (a0.Switches.length : Int)), (6, .loc 0 0 l5.length), (7, vi i6)], ac [(0, .lst false none (List.map (D.int .i64) l5))], 1⟩) (nr [0]) ?_
      refine ba ?_
      exact And.intro rfl rfl
    have hh := aB h
    subst hh
    refine bw ⟨tab [(1, vi a1), (2, am a0), (5, vi (a0.Switches.length : Int)), (6, .loc 0 0 l19.length), (7, vi (i6 + 1))], ac [(0, .lst false none (List.map (D.int .i64) l19))], 1⟩ ?_ ?_
    ·
     refine q1 _ ?_
     refine step (v := vi (i6 + 1)) (cd (ce hinv9 hgo8 hB7) rfl rfl) ?_
     refine q1 _ ?_
     exact nR [0]
    exact And.intro rfl rfl
   ·
    rintro i6 l5 hinv9 hgo8
    show aF _ _ _ _ _ ⟨tab [(1, vi a1), (2, am a0), (5, vi (a0.Switches.length : Int)), (6, .loc 0 0 l5.length), (7, vi i6)], ac [(0, .lst false none (List.map (D.int .i64) l5))], 1⟩
    have hc10 : ¬ (decide (i6 < (a0.Switches.length : Int)) = true) := fun hq => hgo8 (of_decide_eq_true hq)
    refine aE ?_
    refine ak ⟨tab [(1, vi a1), (2, am a0), (5, vi (a0.Switches.length : Int)), (6, .loc 0 0 l5.length), (7, vi i6), (31, vb (decide (i6 < (a0.Switches.length : Int))))], ac [(0, .lst false none (List.map (D.int .i64) l5))], 1⟩ ?_ ?_
    ·
     iterate 3 refine q1 _ ?_
     exact nR [0]
    refine a8 (t := decide (i6 < (a0.Switches.length : Int))) rfl hc10 ?_
    refine aW (s0 := ⟨tab [(1, vi a1), (2, am a0), (5, vi (a0.Switches.length : Int)), (6, .loc 0 0 l5.length)], ac [(0, .lst false none (List.map (D.int .i64) l5))], 1⟩) (nr [0]) ?_
    refine bQ ?_
    exact And.intro rfl rfl
   obtain ⟨r22, hr22, h⟩ := ap h
   refine ak ⟨tab [(1, vi a1), (2, am a0), (5, vi (a0.Switches.length : Int)), (6, .loc 0 0 z21.length), (8, aw r22)], ac [(0, .lst false none (List.map (D.int .i64) z21))], 1⟩ ?_ ?_
   ·
    refine q1 _ ?_
    refine bz (r := eL none (D.int .i64) r22) (aL aS.nil') (vS hr22) ?_
    refine q1 _ ?_
    exact nR [0]
   obtain ⟨r23, hr23, h⟩ := ap h
   refine ak ⟨tab [(1, vi a1), (2, am a0), (5, vi (a0.Switches.length : Int)), (6, .loc 0 0 z21.length), (8, aw r22), (9, aw r23)], ac [(0, .lst false none (List.map (D.int .i64) z21))], 1⟩ ?_ ?_
   ·
    iterate 2 refine q1 _ ?_
    refine bz (r := eL none (D.int .i64) r23) (aL (aL aS.nil')) (vT hr23) ?_
    refine q1 _ ?_
    exact nR [0]
   refine aE ?_
   obtain ⟨r24, hr24, h⟩ := ap h
   obtain ⟨r25, hr25, h⟩ := ap h
   refine ak ⟨tab [(1, vi a1), (2, am a0), (5, vi (a0.Switches.length : Int)), (8, aw r22), (9, aw r23), (73, vb ((!r25) || (((r22.length : Int) != (a0.Switches.length : Int)) || ((r23.length : Int) != (a0.Switches.length : Int)))))], ac [], 0⟩ ?_ ?_
   ·
    iterate 2 refine q1 _ ?_
    refine bz (r := eL none (D.int .i64) r24) (aL (aL aS.nil')) (vR hr24) ?_
    refine q1 _ ?_
    refine bz (r := .bool r25) (aL (o0 (xs := z21) (e := (D.int .i64)) rfl rfl aS.nil')) (mN hr25) ?_
    iterate 2 refine q1 _ ?_
    by_cases hg26 : (!r25) = true
    ·
     iterate 4 refine qX (!r25) (by rw [hg26]; decide) ?_
     refine step (v := vb true) (bv (b := (!r25)) rfl hg26 rfl) ?_
     refine q1 _ ?_
     iterate 4 refine qX true (by decide) ?_
     refine step (v := vb true) (bv (b := true) rfl rfl rfl) ?_
     exact aK.nil' (nm [] ⟨.d _, .d _, .d _, .d _, .d _, .eq (by first | (simp [hg26]; done) | (simp_all; done) | grind), trivial⟩ trivial)
    ·
     refine qG (!r25) (Bool.eq_false_iff.2 hg26) ?_
     refine q1 _ ?_
     refine qG (!r25) (Bool.eq_false_iff.2 hg26) ?_
     refine step (v := vi (r22.length : Int)) (bH (xs := r22) (e := (D.int .i64)) rfl) ?_
     refine qG (!r25) (Bool.eq_false_iff.2 hg26) ?_
     refine q1 _ ?_
     refine qG (!r25) (Bool.eq_false_iff.2 hg26) ?_
     refine q1 _ ?_
     refine step (v := vb ((r22.length : Int) != (a0.Switches.length : Int))) (bx (b := (!r25)) rfl hg26 rfl) ?_
     refine q1 _ ?_
     by_cases hg27 : ((r22.length : Int) != (a0.Switches.length : Int)) = true
     ·
      iterate 4 refine qX ((r22.length : Int) != (a0.Switches.length : Int)) (by rw [hg27]; decide) ?_
      refine step (v := vb true) (bv (b := ((r22.length : Int) != (a0.Switches.length : Int))) rfl hg27 rfl) ?_
      exact aK.nil' (nm [] ⟨.d _, .d _, .d _, .d _, .d _, .eq (by first | (simp [hg26, hg27]; done) | (simp_all; done) | grind), trivial⟩ trivial)
     ·
      refine qG ((r22.length : Int) != (a0.Switches.length : Int)) (Bool.eq_false_iff.2 hg27) ?_
      refine q1 _ ?_
      refine qG ((r22.length : Int) != (a0.Switches.length : Int)) (Bool.eq_false_iff.2 hg27) ?_
      refine step (v := vi (r23.length : Int)) (bH (xs := r23) (e := (D.int .i64)) rfl) ?_
      refine qG ((r22.length : Int) != (a0.Switches.length : Int)) (Bool.eq_false_iff.2 hg27) ?_
      refine q1 _ ?_
      refine qG ((r22.length : Int) != (a0.Switches.length : Int)) (Bool.eq_false_iff.2 hg27) ?_
      refine q1 _ ?_
      refine step (v := vb ((r23.length : Int) != (a0.Switches.length : Int))) (bx (b := ((r22.length : Int) != (a0.Switches.length : Int))) rfl hg27 rfl) ?_
      exact aK.nil' (nm [] ⟨.d _, .d _, .d _, .d _, .d _, .eq (by first | (simp [hg26, hg27]; done) | (simp_all; done) | grind), trivial⟩ trivial)
   by_cases hc28 : ((!r25) || (((r22.length : Int) != (a0.Switches.length : Int)) || ((r23.length : Int) != (a0.Switches.length : Int)))) = true
   ·
    replace h := bp hc28 h
    refine aZ (t := ((!r25) || (((r22.length : Int) != (a0.Switches.length : Int)) || ((r23.length : Int) != (a0.Switches.length : Int))))) rfl hc28 ?_
    refine ak ⟨tab [(4, vb false)], ac [], 0⟩ ?_ ?_
    ·
     refine q1 _ ?_
     exact nR []
    have hh := aB h
    subst hh
    refine bB ?_
    show FQ _ _ _ _
    exact bR (.inr rfl) (bn (v := vb false) rfl rfl) (RV.d trivial)
   ·
    replace h := bq hc28 h
    refine a8 (t := ((!r25) || (((r22.length : Int) != (a0.Switches.length : Int)) || ((r23.length : Int) != (a0.Switches.length : Int))))) rfl hc28 ?_
    refine ba ?_
    refine ak ⟨tab [(1, vi a1), (2, am a0), (5, vi (a0.Switches.length : Int)), (8, aw r22), (9, aw r23), (10, vi 0)], ac [], 0⟩ ?_ ?_
    ·
     refine q1 _ ?_
     exact nR []
    refine aE ?_
    refine ak ⟨tab [(1, vi a1), (2, am a0), (5, vi (a0.Switches.length : Int)), (8, aw r22), (9, aw r23), (10, vi 0), (11, vi 0)], ac [], 0⟩ ?_ ?_
    ·
     refine q1 _ ?_
     exact nR []
    obtain ⟨q87, hl, h⟩ := ap h
    refine be ?_
    refine eJ (cg (a0.Switches.length : Int)) (fun (i30 : Int) (qq : Int) => ⟨tab [(1, vi a1), (2, am a0), (5, vi (a0.Switches.length : Int)), (8, aw r22), (9, aw r23), (10, vi qq), (11, vi i30)], ac [], 0⟩) 2 (fun (qq : Int) => ⟨tab [(2, am a0), (10, vi qq)], ac [], 0⟩) bg ck (r := r) hl (by unfold bg; omega) ?_ ?_ ?_ ?_
    ·
     rintro i30 i29 xr35 hinv33 hgo32 h
     show aF _ _ _ _ _ ⟨tab [(1, vi a1), (2, am a0), (5, vi (a0.Switches.length : Int)), (8, aw r22), (9, aw r23), (10, vi i29), (11, vi i30)], ac [], 0⟩
     have hc34 : decide (i30 < (a0.Switches.length : Int)) = true := decide_eq_true hgo32
     refine aE ?_
     refine ak ⟨tab [(1, vi a1), (2, am a0), (5, vi (a0.Switches.length : Int)), (8, aw r22), (9, aw r23), (10, vi i29), (11, vi i30), (75, vi (a0.Switches.length : Int)), (76, vb (decide (i30 < (a0.Switches.length : Int))))], ac [], 0⟩ ?_ ?_
     ·
      iterate 3 refine q1 _ ?_
      exact nR []
     refine cf 75 rfl fun hB31 => ?_
     refine aZ (t := decide (i30 < (a0.Switches.length : Int))) rfl hc34 ?_
     refine ba ?_
     refine aE ?_
     refine be ?_
     refine ak ⟨tab [(1, vi a1), (2, am a0), (5, vi (a0.Switches.length : Int)), (8, aw r22), (9, aw r23), (10, vi i29), (11, vi i30), (12, vi (-1))], ac [], 0⟩ ?_ ?_
     ·
      refine q1 _ ?_
      exact nR []
     obtain ⟨y40, hv, h⟩ := ap h
     refine eV ⟨tab [(1, vi a1), (2, am a0), (5, vi (a0.Switches.length : Int)), (8, aw r22), (9, aw r23), (10, vi i29), (11, vi i30), (12, vi y40)], ac [], 0⟩ ?_ ?_
     ·
      replace h := hv
      obtain ⟨r36, hr36, h⟩ := ap h
      refine ak ⟨tab [(1, vi a1), (2, am a0), (5, vi (a0.Switches.length : Int)), (8, aw r22), (9, aw r23), (10, vi i29), (11, vi i30), (12, vi (-1)), (13, aw r36.1), (14, vb r36.2)], ac [], 0⟩ ?_ ?_
      ·
       iterate 3 refine q1 _ ?_
       refine bz (r := .tup [eL none (D.int .i64) r36.1, .bool r36.2]) (aL (aL (aL aS.nil'))) (vQ hr36) ?_
       iterate 5 refine q1 _ ?_
       exact nR []
      refine ak ⟨tab [(1, vi a1), (2, am a0), (5, vi (a0.Switches.length : Int)), (8, aw r22), (9, aw r23), (10, vi i29), (11, vi i30), (12, vi (-1)), (13, aw r36.1), (91, vb (r36.2 && (decide ((r36.1.length : Int) > 1))))], ac [], 0⟩ ?_ ?_
      ·
       iterate 2 refine q1 _ ?_
       by_cases hg37 : r36.2 = true
       ·
        refine qG _ hg37 ?_
        refine q1 _ ?_
        refine qG _ hg37 ?_
        refine step (v := vi (r36.1.length : Int)) (bH (xs := r36.1) (e := (D.int .i64)) rfl) ?_
        refine qG _ hg37 ?_
        refine q1 _ ?_
        refine step (v := vb (decide ((r36.1.length : Int) > 1))) (bv (b := r36.2) rfl hg37 rfl) ?_
        exact aK.nil' (nm [] ⟨.d _, .d _, .d _, .d _, .d _, .d _, .d _, .d _, .d _, .eq (by first | (simp [hg37]; done) | (simp_all; done) | grind), trivial⟩ trivial)
       ·
        iterate 3 refine qX _ hg37 ?_
        refine step (v := vb false) (bx (b := r36.2) rfl hg37 rfl) ?_
        exact aK.nil' (nm [] ⟨.d _, .d _, .d _, .d _, .d _, .d _, .d _, .d _, .d _, .eq (by first | (simp [hg37]; done) | (simp_all; done) | grind), trivial⟩ trivial)
      by_cases hc38 : (r36.2 && (decide ((r36.1.length : Int) > 1))) = true
      ·
       replace h := bp hc38 h
       refine aZ (t := (r36.2 && (decide ((r36.1.length : Int) > 1)))) rfl hc38 ?_
       obtain ⟨x39, hx39, h⟩ := ap h
       have hh := aB h
       subst hh
       refine bw ⟨tab [(1, vi a1), (2, am a0), (5, vi (a0.Switches.length : Int)), (8, aw r22), (9, aw r23), (10, vi i29), (11, vi i30), (12, vi x39)], ac [], 0⟩ ?_ ?_
       ·
        iterate 2 refine q1 _ ?_
        refine step (v := vi (r36.1.length : Int)) (bH (xs := r36.1) (e := (D.int .i64)) rfl) ?_
        refine q1 _ ?_
        refine step (v := .d (.cptr none (.int .i64 x39) 0)) (bZ (xs := r36.1) (e := (D.int .i64)) hx39 rfl rfl) ?_
        iterate 2 refine q1 _ ?_
        exact nR []
       exact And.intro rfl rfl
      ·
       replace h := bq hc38 h
       refine a8 (t := (r36.2 && (decide ((r36.1.length : Int) > 1)))) rfl hc38 ?_
       have hh := aB h
       subst hh
       refine aW (s0 := ⟨tab [(1, vi a1), (2, am a0), (5, vi (a0.Switches.length : Int)), (8, aw r22), (9, aw r23), (10, vi i29), (11, vi i30), (12, vi (-1))], ac [], 0⟩) (nr []) ?_
       refine ba ?_
       exact And.intro rfl rfl
     refine aE ?_
     obtain ⟨x42, hx42, h⟩ := ap h
     refine ak ⟨tab [(1, vi a1), (2, am a0), (5, vi (a0.Switches.length : Int)), (8, aw r22), (9, aw r23), (10, vi i29), (11, vi i30), (103, vb (x42 != y40))], ac [], 0⟩ ?_ ?_
     ·
      iterate 2 refine q1 _ ?_
      refine step (v := .d (.cptr none (.int .i64 x42) 0)) (bZ (xs := r23) (e := (D.int .i64)) hx42 rfl rfl) ?_
      iterate 3 refine q1 _ ?_
      exact nR []
     by_cases hc43 : (x42 != y40) = true
     ·
      replace h := bp hc43 h
      refine aZ (t := (x42 != y40)) rfl hc43 ?_
      refine ak ⟨tab [(4, vb false)], ac [], 0⟩ ?_ ?_
      ·
       refine q1 _ ?_
       exact nR []
      obtain ⟨r44, kr44, hr⟩ := dU (o := some false) (g := Br.ret) h
      subst hr
      have h := kr44
      have hh := aB h
      subst hh
      refine bB ?_
      refine And.intro (fun hn => nomatch hn) ?_
      intro hq
      have hq := hq.symm
      subst hq
      show FQ _ _ _ _
      exact bR (.inr rfl) (bn (v := vb false) rfl rfl) (RV.d trivial)
     ·
      replace h := bq hc43 h
      refine a8 (t := (x42 != y40)) rfl hc43 ?_
      refine ba ?_
      refine aE ?_
      refine ak ⟨tab [(1, vi a1), (2, am a0), (5, vi (a0.Switches.length : Int)), (8, aw r22), (9, aw r23), (10, vi i29), (11, vi i30), (15, vi 0)], ac [], 0⟩ ?_ ?_
      ·
       refine q1 _ ?_
       exact nR []
      obtain ⟨z52, hl, h⟩ := ap h
      refine be ?_
      refine dc (cg (a0.Switches.length : Int)) (fun (i45 : Int) (qq : Int) => ⟨tab [(1, vi a1), (2, am a0), (5, vi (a0.Switches.length : Int)), (8, aw r22), (9, aw r23), (10, vi qq), (11, vi i30), (15, vi i45)], ac [], 0⟩) 4 (fun (qq : Int) => ⟨tab [(1, vi a1), (2, am a0), (5, vi (a0.Switches.length : Int)), (8, aw r22), (9, aw r23), (10, vi qq), (11, vi i30)], ac [], 0⟩) bg ck hl (by unfold bg; omega) ?_ ?_ ?_
      ·
       rintro i45 i44 xr50 hinv48 hgo47 h
       show aF _ _ _ _ _ ⟨tab [(1, vi a1), (2, am a0), (5, vi (a0.Switches.length : Int)), (8, aw r22), (9, aw r23), (10, vi i44), (11, vi i30), (15, vi i45)], ac [], 0⟩
       have hc49 : decide (i45 < (a0.Switches.length : Int)) = true := decide_eq_true hgo47
       refine aE ?_
       refine ak ⟨tab [(1, vi a1), (2, am a0), (5, vi (a0.Switches.length : Int)), (8, aw r22), (9, aw r23), (10, vi i44), (11, vi i30), (15, vi i45), (105, vi (a0.Switches.length : Int)), (106, vb (decide (i45 < (a0.Switches.length : Int))))], ac [], 0⟩ ?_ ?_
       ·
        iterate 3 refine q1 _ ?_
        exact nR []
       refine cf 105 rfl fun hB46 => ?_
       refine aZ (t := decide (i45 < (a0.Switches.length : Int))) rfl hc49 ?_
       refine ba ?_
       refine aE ?_
       refine be ?_
       obtain ⟨r51, hr51, h⟩ := ap h
       refine bw ⟨tab [(1, vi a1), (2, am a0), (5, vi (a0.Switches.length : Int)), (8, aw r22), (9, aw r23), (10, vi (bO i44 r51)), (11, vi i30), (15, vi i45)], ac [], 0⟩ ?_ ?_
       ·
        iterate 4 refine q1 _ ?_
        refine bz (r := .int .i64 r51) (aL (aL (aL (aL aS.nil')))) (js hr51) ?_
        iterate 2 refine q1 _ ?_
        exact nR []
       have hh := aB h
       subst hh
       refine bw ⟨tab [(1, vi a1), (2, am a0), (5, vi (a0.Switches.length : Int)), (8, aw r22), (9, aw r23), (10, vi (bO i44 r51)), (11, vi i30), (15, vi (i45 + 1))], ac [], 0⟩ ?_ ?_
       ·
        refine q1 _ ?_
        refine step (v := vi (i45 + 1)) (cd (ce hinv48 hgo47 hB46) rfl rfl) ?_
        refine q1 _ ?_
        exact nR []
       exact And.intro rfl rfl
      ·
       rintro i45 i44 hinv48 hgo47
       show aF _ _ _ _ _ ⟨tab [(1, vi a1), (2, am a0), (5, vi (a0.Switches.length : Int)), (8, aw r22), (9, aw r23), (10, vi i44), (11, vi i30), (15, vi i45)], ac [], 0⟩
       have hc49 : ¬ (decide (i45 < (a0.Switches.length : Int)) = true) := fun hq => hgo47 (of_decide_eq_true hq)
       refine aE ?_
       refine ak ⟨tab [(1, vi a1), (2, am a0), (5, vi (a0.Switches.length : Int)), (8, aw r22), (9, aw r23), (10, vi i44), (11, vi i30), (15, vi i45), (106, vb (decide (i45 < (a0.Switches.length : Int))))], ac [], 0⟩ ?_ ?_
       ·
        iterate 3 refine q1 _ ?_
        exact nR []
       refine a8 (t := decide (i45 < (a0.Switches.length : Int))) rfl hc49 ?_
       refine aW (s0 := ⟨tab [(1, vi a1), (2, am a0), (5, vi (a0.Switches.length : Int)), (8, aw r22), (9, aw r23), (10, vi i44), (11, vi i30)], ac [], 0⟩) (nr []) ?_
       refine bQ ?_
       exact And.intro rfl rfl
      refine ak ⟨tab [(1, vi a1), (2, am a0), (5, vi (a0.Switches.length : Int)), (8, aw r22), (9, aw r23), (10, vi z52), (11, vi i30), (16, vi 0)], ac [], 0⟩ ?_ ?_
      ·
       refine q1 _ ?_
       exact nR []
      refine aE ?_
      obtain ⟨z57, hl, h⟩ := ap h
      refine be ?_
      refine lX (fun (qq : Int) => ⟨tab [(1, vi a1), (2, am a0), (5, vi (a0.Switches.length : Int)), (8, aw r22), (9, aw r23), (10, vi z52), (11, vi i30), (16, vi qq)], ac [], 0⟩) 6 (fun (qq : Int) => ⟨tab [(1, vi a1), (2, am a0), (5, vi (a0.Switches.length : Int)), (8, aw r22), (9, aw r23), (10, vi z52), (11, vi i30), (16, vi qq)], ac [], 0⟩) hl ?_ ?_
      ·
       rintro i53 xr54 h
       show aF _ _ _ _ _ ⟨tab [(1, vi a1), (2, am a0), (5, vi (a0.Switches.length : Int)), (8, aw r22), (9, aw r23), (10, vi z52), (11, vi i30), (16, vi i53)], ac [], 0⟩
       refine aE ?_
       obtain ⟨r55, hr55, h⟩ := ap h
       refine ak ⟨tab [(1, vi a1), (2, am a0), (5, vi (a0.Switches.length : Int)), (8, aw r22), (9, aw r23), (10, vi z52), (11, vi i30), (16, vi i53), (119, vb (decide (r55 < 0)))], ac [], 0⟩ ?_ ?_
       ·
        iterate 3 refine q1 _ ?_
        refine bz (r := .int .i64 r55) (aL (aL (aL (aL aS.nil')))) (js hr55) ?_
        refine q1 _ ?_
        exact nR []
       by_cases hc56 : decide (r55 < 0) = true
       ·
        replace h := bp hc56 h
        refine aZ (t := decide (r55 < 0)) rfl hc56 ?_
        refine ba ?_
        refine be ?_
        have hh := aB h
        subst hh
        refine bw ⟨tab [(1, vi a1), (2, am a0), (5, vi (a0.Switches.length : Int)), (8, aw r22), (9, aw r23), (10, vi z52), (11, vi i30), (16, vi (IntKind.i64.wrap (i53 + 1)))], ac [], 0⟩ ?_ ?_
        ·
         iterate 3 refine q1 _ ?_
         exact nR []
        exact And.intro rfl rfl
       ·
        replace h := bq hc56 h
        refine a8 (t := decide (r55 < 0)) rfl hc56 ?_
        have hh := aB h
        subst hh
        refine aW (s0 := ⟨tab [(1, vi a1), (2, am a0), (5, vi (a0.Switches.length : Int)), (8, aw r22), (9, aw r23), (10, vi z52), (11, vi i30), (16, vi i53)], ac [], 0⟩) (nr []) ?_
        refine bQ ?_
        exact And.intro rfl rfl
      obtain ⟨x58, hx58, h⟩ := ap h
      refine ak ⟨tab [(1, vi a1), (2, am a0), (5, vi (a0.Switches.length : Int)), (8, aw r22), (9, aw r23), (10, vi z52), (11, vi i30), (127, vb (x58 != z57))], ac [], 0⟩ ?_ ?_
      ·
       iterate 2 refine q1 _ ?_
       refine step (v := .d (.cptr none (.int .i64 x58) 0)) (bZ (xs := r22) (e := (D.int .i64)) hx58 rfl rfl) ?_
       iterate 3 refine q1 _ ?_
       exact nR []
      by_cases hc59 : (x58 != z57) = true
      ·
       replace h := bp hc59 h
       refine aZ (t := (x58 != z57)) rfl hc59 ?_
       refine ak ⟨tab [(4, vb false)], ac [], 0⟩ ?_ ?_
       ·
        refine q1 _ ?_
        exact nR []
       obtain ⟨r60, kr60, hr⟩ := dU (o := some false) (g := Br.ret) h
       subst hr
       have h := kr60
       have hh := aB h
       subst hh
       refine bB ?_
       refine And.intro (fun hn => nomatch hn) ?_
       intro hq
       have hq := hq.symm
       subst hq
       show FQ _ _ _ _
       exact bR (.inr rfl) (bn (v := vb false) rfl rfl) (RV.d trivial)
      ·
       replace h := bq hc59 h
       refine a8 (t := (x58 != z57)) rfl hc59 ?_
       refine ba ?_
       have hh := aB h
       subst hh
       refine bw ⟨tab [(1, vi a1), (2, am a0), (5, vi (a0.Switches.length : Int)), (8, aw r22), (9, aw r23), (10, vi z52), (11, vi (i30 + 1))], ac [], 0⟩ ?_ ?_
       ·
        refine q1 _ ?_
        refine step (v := vi (i30 + 1)) (cd (ce hinv33 hgo32 hB31) rfl rfl) ?_
        refine q1 _ ?_
        exact nR []
       exact And.intro rfl rfl
    ·
     rintro i30 i29 hinv33 hgo32
     show aF _ _ _ _ _ ⟨tab [(1, vi a1), (2, am a0), (5, vi (a0.Switches.length : Int)), (8, aw r22), (9, aw r23), (10, vi i29), (11, vi i30)], ac [], 0⟩
     have hc34 : ¬ (decide (i30 < (a0.Switches.length : Int)) = true) := fun hq => hgo32 (of_decide_eq_true hq)
     refine aE ?_
     refine ak ⟨tab [(1, vi a1), (2, am a0), (5, vi (a0.Switches.length : Int)), (8, aw r22), (9, aw r23), (10, vi i29), (11, vi i30), (76, vb (decide (i30 < (a0.Switches.length : Int))))], ac [], 0⟩ ?_ ?_
     ·
      iterate 3 refine q1 _ ?_
      exact nR []
     refine a8 (t := decide (i30 < (a0.Switches.length : Int))) rfl hc34 ?_
     refine aW (s0 := ⟨tab [(2, am a0), (10, vi i29)], ac [], 0⟩) (nr []) ?_
     refine bQ ?_
     exact And.intro rfl rfl
    ·
     intro r' hq
     subst hq
     exact aB h
    rintro z62 rfl
    refine ak ⟨tab [(2, am a0), (10, vi z62), (17, .d (.nils))], ac [], 0⟩ ?_ ?_
    ·
     refine q1 _ ?_
     exact nR []
    refine aE ?_
    refine ak ⟨tab [(2, am a0), (10, vi z62), (17, .d (.nils)), (130, vi (a0.Links.length : Int)), (131, vi 0)], ac [], 0⟩ ?_ ?_
    ·
     iterate 2 refine q1 _ ?_
     refine step (v := vi (a0.Links.length : Int)) (bH (xs := a0.Links) (e := (bW eapi_Port)) rfl) ?_
     refine q1 _ ?_
     exact nR []
    obtain ⟨z79, hl, h⟩ := ap h
    refine aW (s0 := ⟨tab [(2, am a0), (10, vi z62), (17, .loc 0 0 (([] : List Int).length)), (130, vi (a0.Links.length : Int)), (131, vi 0)], ac [(0, .lst false none (List.map (D.int .i64) ([] : List Int)))], 1⟩) (bu.trans (s2 := ⟨tab [(2, am a0), (10, vi z62), (17, .loc 0 0 (([] : List Int).length)), (130, vi (a0.Links.length : Int)), (131, vi 0)], ac [(0, .lst false none (List.map (D.int .i64) ([] : List Int)))], 1⟩) (ki 17 false none rfl) (nr [0])) ?_
    refine be ?_
    refine dc (cg (a0.Links.length : Int)) (fun (i64 : Int) (qq : (List Int)) => ⟨tab [(2, am a0), (10, vi z62), (17, .loc 0 0 qq.length), (130, vi (a0.Links.length : Int)), (131, vi i64)], ac [(0, .lst false none (List.map (D.int .i64) qq))], 1⟩) 8 (fun (qq : (List Int)) => ⟨tab [(2, am a0), (10, vi z62), (17, .loc 0 0 qq.length)], ac [(0, .lst false none (List.map (D.int .i64) qq))], 1⟩) bg ck hl (by unfold bg; omega) ?_ ?_ ?_
    ·
     rintro i64 l63 xr69 hinv67 hgo66 h
     show aF _ _ _ _ _ ⟨tab [(2, am a0), (10, vi z62), (17, .loc 0 0 l63.length), (130, vi (a0.Links.length : Int)), (131, vi i64)], ac [(0, .lst false none (List.map (D.int .i64) l63))], 1⟩
     have hc68 : decide (i64 < (a0.Links.length : Int)) = true := decide_eq_true hgo66
     refine ak ⟨tab [(2, am a0), (10, vi z62), (17, .loc 0 0 l63.length), (130, vi (a0.Links.length : Int)), (131, vi i64), (132, vb (decide (i64 < (a0.Links.length : Int))))], ac [(0, .lst false none (List.map (D.int .i64) l63))], 1⟩ ?_ ?_
     ·
      refine q1 _ ?_
      exact nR [0]
     refine cf 130 rfl fun hB65 => ?_
     refine aE ?_
     refine aZ (t := decide (i64 < (a0.Links.length : Int))) rfl hc68 ?_
     refine ba ?_
     obtain ⟨l77, hv, h⟩ := ap h
     refine eV ⟨tab [(2, am a0), (10, vi z62), (17, .loc 0 0 l77.length), (130, vi (a0.Links.length : Int)), (131, vi i64)], ac [(0, .lst false none (List.map (D.int .i64) l77))], 1⟩ ?_ ?_
     ·
      replace h := hv
      refine be ?_
      refine ak ⟨tab [(2, am a0), (10, vi z62), (17, .loc 0 0 l63.length), (18, vi i64), (130, vi (a0.Links.length : Int)), (131, vi i64)], ac [(0, .lst false none (List.map (D.int .i64) l63))], 1⟩ ?_ ?_
      ·
       iterate 2 refine q1 _ ?_
       exact nR [0]
      obtain ⟨r70, hr70, h⟩ := ap h
      refine ak ⟨tab [(2, am a0), (10, vi z62), (17, .loc 0 0 l63.length), (18, vi i64), (19, vi r70.1), (20, vi r70.2), (130, vi (a0.Links.length : Int)), (131, vi i64)], ac [(0, .lst false none (List.map (D.int .i64) l63))], 1⟩ ?_ ?_
      ·
       iterate 2 refine q1 _ ?_
       refine bz (r := .tup [.int .i64 r70.1, .int .i64 r70.2]) (aL (aL aS.nil')) (pJ hr70) ?_
       iterate 5 refine q1 _ ?_
       exact nR [0]
      obtain ⟨y73, hv, h⟩ := ap h
      refine ak ⟨tab [(2, am a0), (10, vi z62), (17, .loc 0 0 l63.length), (18, vi i64), (130, vi (a0.Links.length : Int)), (131, vi i64), (150, vb y73)], ac [(0, .lst false none (List.map (D.int .i64) l63))], 1⟩ ?_ ?_
      ·
       iterate 4 refine q1 _ ?_
       by_cases hg71 : (r70.1 != r70.2) = true
       ·
        replace hv := bp hg71 hv
        obtain ⟨r72, hr72, hv⟩ := ap hv
        refine qG _ hg71 ?_
        refine q1 _ ?_
        refine qG _ hg71 ?_
        refine q1 _ ?_
        refine qG _ hg71 ?_
        refine q1 _ ?_
        refine qG _ hg71 ?_
        refine q1 _ ?_
        refine qG _ hg71 ?_
        refine bz (r := .int .i64 r72) (aL (aL (aL (aL aS.nil')))) (js hr72) ?_
        refine qG _ hg71 ?_
        refine q1 _ ?_
        refine step (v := vb (decide (r72 < 0))) (bv (b := (r70.1 != r70.2)) rfl hg71 rfl) ?_
        have hh := aB hv
        subst hh
        exact nR [0]
       ·
        replace hv := bq hg71 hv
        iterate 6 refine qX _ hg71 ?_
        refine step (v := vb false) (bx (b := (r70.1 != r70.2)) rfl hg71 rfl) ?_
        have hh := aB hv
        subst hh
        exact nR [0]
      by_cases hc75 : y73 = true
      ·
       replace h := bp hc75 h
       refine aZ (t := y73) rfl hc75 ?_
       obtain ⟨l76, hl76, h⟩ := ap h
       have hh := aB h
       subst hh
       refine bw ⟨tab [(2, am a0), (10, vi z62), (17, .loc 0 0 l76.length), (130, vi (a0.Links.length : Int)), (131, vi i64)], ac [(0, .lst false none (List.map (D.int .i64) l76))], 1⟩ ?_ ?_
       ·
        iterate 3 refine q1 _ ?_
        refine step (v := .loc 1 0 l76.length) (σ' := (aj (aj (ac [(0, .lst false none (List.map (D.int .i64) l63))]) 0 none) 1 (some (.lst false none (List.map (D.int .i64) l76))))) (n' := 2) (gM (xs := l63) (ys := ([i64] : List Int)) (e := (D.int .i64)) hl76 rfl rfl rfl (gL (xs := ([i64] : List Int)) (e := (D.int .i64)) rfl)) ?_
        refine q1 _ ?_
        exact nR [1]
       exact And.intro rfl rfl
      ·
       replace h := bq hc75 h
       refine a8 (t := y73) rfl hc75 ?_
       have hh := aB h
       subst hh
       refine aW (s0 := ⟨tab [(2, am a0), (10, vi z62), (17, .loc 0 0 l63.length), (130, vi (a0.Links.length : Int)), (131, vi i64)], ac [(0, .lst false none (List.map (D.int .i64) l63))], 1⟩) (nr [0]) ?_
       refine ba ?_
       exact And.intro rfl rfl
     have hh := aB h
     subst hh
     refine bw ⟨tab [(2, am a0), (10, vi z62), (17, .loc 0 0 l77.length), (130, vi (a0.Links.length : Int)), (131, vi (i64 + 1))], ac [(0, .lst false none (List.map (D.int .i64) l77))], 1⟩ ?_ ?_
     ·
      refine step (v := vi (i64 + 1)) (cd (ce hinv67 hgo66 hB65) rfl rfl) ?_
      refine q1 _ ?_
      exact nR [0]
     exact And.intro rfl rfl
    ·
     rintro i64 l63 hinv67 hgo66
     show aF _ _ _ _ _ ⟨tab [(2, am a0), (10, vi z62), (17, .loc 0 0 l63.length), (130, vi (a0.Links.length : Int)), (131, vi i64)], ac [(0, .lst false none (List.map (D.int .i64) l63))], 1⟩
     have hc68 : ¬ (decide (i64 < (a0.Links.length : Int)) = true) := fun hq => hgo66 (of_decide_eq_true hq)
     refine ak ⟨tab [(2, am a0), (10, vi z62), (17, .loc 0 0 l63.length), (130, vi (a0.Links.length : Int)), (131, vi i64), (132, vb (decide (i64 < (a0.Links.length : Int))))], ac [(0, .lst false none (List.map (D.int .i64) l63))], 1⟩ ?_ ?_
     ·
      refine q1 _ ?_
      exact nR [0]
     refine aE ?_
     refine a8 (t := decide (i64 < (a0.Links.length : Int))) rfl hc68 ?_
     refine aW (s0 := ⟨tab [(2, am a0), (10, vi z62), (17, .loc 0 0 l63.length)], ac [(0, .lst false none (List.map (D.int .i64) l63))], 1⟩) (nr [0]) ?_
     refine bQ ?_
     exact And.intro rfl rfl
    obtain ⟨r80, hr80, h⟩ := ap h
    obtain ⟨r81, hr81, h⟩ := ap h
    obtain ⟨y84, hv, h⟩ := ap h
    refine ak ⟨tab [(4, vb y84)], ac [], 0⟩ ?_ ?_
    ·
     refine q1 _ ?_
     refine bz (r := eL none (D.int .i64) r80) (aL aS.nil') (pI hr80) ?_
     refine q1 _ ?_
     refine bz (r := .bool r81) (aL (o0 (xs := z79) (e := (D.int .i64)) rfl rfl aS.nil')) (mN hr81) ?_
     refine q1 _ ?_
     by_cases hg82 : r81 = true
     ·
      replace hv := bp hg82 hv
      obtain ⟨r83, hr83, hv⟩ := ap hv
      refine qG _ hg82 ?_
      refine q1 _ ?_
      refine qG _ hg82 ?_
      refine bz (r := .int .i64 r83) (aL aS.nil') (vV hr83) ?_
      refine qG _ hg82 ?_
      refine q1 _ ?_
      refine qG _ hg82 ?_
      refine q1 _ ?_
      refine step (v := vb (r83 == z62)) (bv (b := r81) rfl hg82 rfl) ?_
      refine q1 _ ?_
      have hh := aB hv
      subst hh
      exact nR []
     ·
      replace hv := bq hg82 hv
      iterate 4 refine qX _ hg82 ?_
      refine step (v := vb false) (bx (b := r81) rfl hg82 rfl) ?_
      refine q1 _ ?_
      have hh := aB hv
      subst hh
      exact nR []
    have hh := aB h
    subst hh
    refine bB ?_
    show FQ _ _ _ _
    exact bR (.inr rfl) (bn (v := vb y84) rfl rfl) (RV.d trivial)
end Go.AM
