import Derived.Test.YtfjelgjfbjjopaaGrW1
set_option linter.unusedVariables false
set_option linter.unusedSimpArgs false
namespace Go.AM
open Go Go.RowKit Go.Proofs
attribute [local irreducible] aI cf
set_option maxHeartbeats 2000000
theorem u3 {a0 : api_Topo} {a1 : Int} {r : (List Int)} (h : jv a0 a1 = some r) : PCall Try.prog 31 [eapi_Topo a0, .int .i64 a1] (eL none (D.int .i64) r) := by
 refine PCall.introN uf (show 2 ≤ 16 by decide) ?_
 refine bo (s0 := ⟨tab [(0, vs1 a0), (1, vi a1)], ae [], 0⟩) (nr []) ?_
 refine am ⟨tab [(1, vi a1), (2, aG a0)], ae [], 0⟩ ?_ ?_
 ·
  iterate 2 refine q1 _ ?_
  exact nR []
 obtain ⟨r1, hr1, h⟩ := az h
 refine am ⟨tab [(1, vi a1), (5, .d (eL none (eL none (D.int .i64)) r1))], ae [], 0⟩ ?_ ?_
 ·
  refine q1 _ ?_
  refine bM (r := eL none (eL none (D.int .i64)) r1) (aS (aS ba.nil')) (jh hr1) ?_
  refine q1 _ ?_
  exact nR []
 refine aJ ?_
 obtain ⟨r2, hr2, h⟩ := az h
 refine am ⟨tab [(1, vi a1), (5, .d (eL none (eL none (D.int .i64)) r1)), (11, vb (!r2))], ae [], 0⟩ ?_ ?_
 ·
  iterate 2 refine q1 _ ?_
  refine bM (r := .bool r2) (aS (aS ba.nil')) (io hr2) ?_
  refine q1 _ ?_
  exact nR []
 by_cases hc3 : (!r2) = true
 ·
  replace h := bG hc3 h
  refine bh (t := (!r2)) rfl hc3 ?_
  refine am ⟨tab [(4, aF ([] : List Int))], ae [], 0⟩ ?_ ?_
  ·
   refine q1 _ ?_
   exact nR []
  have hh := aE h
  subst hh
  refine bE ?_
  show FQ _ _ _ _
  exact bZ (.inr rfl) (bx (v := aF ([] : List Int)) rfl rfl) (RV.d trivial)
 ·
  replace h := bH hc3 h
  refine bk (t := (!r2)) rfl hc3 ?_
  refine bn ?_
  obtain ⟨x4, hx4, h⟩ := az h
  refine am ⟨tab [(4, aF x4)], ae [], 0⟩ ?_ ?_
  ·
   iterate 2 refine q1 _ ?_
   refine step (v := .d (.cptr none (eL none (D.int .i64) x4) 0)) (bX (xs := r1) (e := (eL none (D.int .i64))) hx4 rfl rfl) ?_
   iterate 2 refine q1 _ ?_
   exact nR []
  have hh := aE h
  subst hh
  refine bE ?_
  show FQ _ _ _ _
  exact bZ (.inr rfl) (bx (v := aF x4) rfl rfl) (RV.d trivial)
theorem u4 {a0 : api_Topo} {r : (List Int)} (h : jw a0 = some r) : PCall Try.prog 32 [eapi_Topo a0] (eL none (D.int .i64) r) := by
 refine PCall.introN uk (show 1 ≤ 51 by decide) ?_
 refine bo (s0 := ⟨tab [(0, vs1 a0)], ae [], 0⟩) (nr []) ?_
 refine am ⟨tab [(1, aG a0)], ae [], 0⟩ ?_ ?_
 ·
  iterate 2 refine q1 _ ?_
  exact nR []
 obtain ⟨r1, hr1, h⟩ := az h
 refine am ⟨tab [(3, .d (eL none (eL none (D.int .i64)) r1))], ae [], 0⟩ ?_ ?_
 ·
  refine q1 _ ?_
  refine bM (r := eL none (eL none (D.int .i64)) r1) (aS (aS ba.nil')) (jh hr1) ?_
  refine q1 _ ?_
  exact nR []
 obtain ⟨l2, hl2, h⟩ := az h
 refine am ⟨tab [(3, .d (eL none (eL none (D.int .i64)) r1)), (4, .loc 0 0 l2.length)], ae [(0, .lst true none (List.map (D.int .i64) l2))], 1⟩ ?_ ?_
 ·
  refine q1 _ ?_
  refine step (v := vi (r1.length : Int)) (bN (xs := r1) (e := (eL none (D.int .i64))) rfl) ?_
  refine step (v := .loc 0 0 l2.length) (σ' := (ah (ae []) 0 (some (.lst true none (List.map (D.int .i64) l2))))) (n' := 1) (oA (e := (D.int .i64)) (z := 0) hl2 rfl rfl (oC hl2)) ?_
  refine q1 _ ?_
  exact nR [0]
 refine aJ ?_
 refine am ⟨tab [(3, .d (eL none (eL none (D.int .i64)) r1)), (4, .loc 0 0 l2.length), (15, vi (l2.length : Int)), (16, vi 0)], ae [(0, .lst true none (List.map (D.int .i64) l2))], 1⟩ ?_ ?_
 ·
  iterate 3 refine q1 _ ?_
  exact nR [0]
 obtain ⟨z12, hl, h⟩ := az h
 refine bv ?_
 refine ff (cF (l2.length : Int)) (fun (i4 : Int) (qq : (List Int)) => ⟨tab [(3, .d (eL none (eL none (D.int .i64)) r1)), (4, .loc 0 0 qq.length), (15, vi (l2.length : Int)), (16, vi i4)], ae [(0, .lst true none (List.map (D.int .i64) qq))], 1⟩) 0 (fun (qq : (List Int)) => ⟨tab [(3, .d (eL none (eL none (D.int .i64)) r1)), (4, .loc 0 0 qq.length)], ae [(0, .lst true none (List.map (D.int .i64) qq))], 1⟩) bw cG hl (by unfold bw; omega) ?_ ?_ ?_
 ·
  rintro i4 l3 xr9 hinv7 hgo6 h
  show aH _ _ _ _ _ ⟨tab [(3, .d (eL none (eL none (D.int .i64)) r1)), (4, .loc 0 0 l3.length), (15, vi (l2.length : Int)), (16, vi i4)], ae [(0, .lst true none (List.map (D.int .i64) l3))], 1⟩
  have hc8 : decide (i4 < (l2.length : Int)) = true := decide_eq_true hgo6
  refine am ⟨tab [(3, .d (eL none (eL none (D.int .i64)) r1)), (4, .loc 0 0 l3.length), (15, vi (l2.length : Int)), (16, vi i4), (17, vb (decide (i4 < (l2.length : Int))))], ae [(0, .lst true none (List.map (D.int .i64) l3))], 1⟩ ?_ ?_
  ·
   refine q1 _ ?_
   exact nR [0]
  refine cE 15 rfl fun hB5 => ?_
  refine aJ ?_
  refine bh (t := decide (i4 < (l2.length : Int))) rfl hc8 ?_
  refine bn ?_
  refine aJ ?_
  refine bv ?_
  refine am ⟨tab [(3, .d (eL none (eL none (D.int .i64)) r1)), (4, .loc 0 0 l3.length), (5, vi i4), (15, vi (l2.length : Int)), (16, vi i4)], ae [(0, .lst true none (List.map (D.int .i64) l3))], 1⟩ ?_ ?_
  ·
   iterate 2 refine q1 _ ?_
   exact nR [0]
  obtain ⟨x10, hx10, h⟩ := az h
  obtain ⟨l11, hl11, h⟩ := az h
  refine bT ⟨tab [(3, .d (eL none (eL none (D.int .i64)) r1)), (4, .loc 0 0 l11.length), (15, vi (l2.length : Int)), (16, vi i4)], ae [(0, .lst true none (List.map (D.int .i64) l11))], 1⟩ ?_ ?_
  ·
   iterate 2 refine q1 _ ?_
   refine step (v := .ptr 0 i4.toNat 0) (eR (xs := l3) (e := (D.int .i64)) hx10 rfl rfl rfl rfl) ?_
   refine step (v := V.undef) (σ' := (ah (ae [(0, .lst true none (List.map (D.int .i64) l3))]) 0 (some (.lst true none (List.map (D.int .i64) l11))))) (n' := 1) (hJ (e := (D.int .i64)) (v' := (-1)) hl11 rfl rfl rfl rfl rfl) ?_
   exact aI.nil' (nm [0] ⟨.d _, .le (id := 0) (hI hl11).symm (show 0 < 1 by decide), .d _, .d _, trivial⟩ ⟨⟨show 0 < 1 by decide, _, rfl, .lst _ _ _⟩, trivial⟩)
  have hh := aE h
  subst hh
  refine bT ⟨tab [(3, .d (eL none (eL none (D.int .i64)) r1)), (4, .loc 0 0 l11.length), (15, vi (l2.length : Int)), (16, vi (i4 + 1))], ae [(0, .lst true none (List.map (D.int .i64) l11))], 1⟩ ?_ ?_
  ·
   refine step (v := vi (i4 + 1)) (cH (cI hinv7 hgo6 hB5) rfl rfl) ?_
   refine q1 _ ?_
   exact nR [0]
  exact And.intro rfl rfl
 ·
  rintro i4 l3 hinv7 hgo6
  show aH _ _ _ _ _ ⟨tab [(3, .d (eL none (eL none (D.int .i64)) r1)), (4, .loc 0 0 l3.length), (15, vi (l2.length : Int)), (16, vi i4)], ae [(0, .lst true none (List.map (D.int .i64) l3))], 1⟩
  have hc8 : ¬ (decide (i4 < (l2.length : Int)) = true) := fun hq => hgo6 (of_decide_eq_true hq)
  refine am ⟨tab [(3, .d (eL none (eL none (D.int .i64)) r1)), (4, .loc 0 0 l3.length), (15, vi (l2.length : Int)), (16, vi i4), (17, vb (decide (i4 < (l2.length : Int))))], ae [(0, .lst true none (List.map (D.int .i64) l3))], 1⟩ ?_ ?_
  ·
   refine q1 _ ?_
   exact nR [0]
  refine aJ ?_
  refine bk (t := decide (i4 < (l2.length : Int))) rfl hc8 ?_
  refine bo (s0 := ⟨tab [(3, .d (eL none (eL none (D.int .i64)) r1)), (4, .loc 0 0 l3.length)], ae [(0, .lst true none (List.map (D.int .i64) l3))], 1⟩) (nr [0]) ?_
  refine ct ?_
  exact And.intro rfl rfl
 refine aJ ?_
 refine am ⟨tab [(3, .d (eL none (eL none (D.int .i64)) r1)), (4, .loc 0 0 z12.length), (24, vi (r1.length : Int)), (25, vi 0)], ae [(0, .lst true none (List.map (D.int .i64) z12))], 1⟩ ?_ ?_
 ·
  refine q1 _ ?_
  refine step (v := vi (r1.length : Int)) (bN (xs := r1) (e := (eL none (D.int .i64))) rfl) ?_
  refine q1 _ ?_
  exact nR [0]
 obtain ⟨z40, hl, h⟩ := az h
 refine bv ?_
 refine ff (cF (r1.length : Int)) (fun (i14 : Int) (qq : (List Int)) => ⟨tab [(3, .d (eL none (eL none (D.int .i64)) r1)), (4, .loc 0 0 qq.length), (24, vi (r1.length : Int)), (25, vi i14)], ae [(0, .lst true none (List.map (D.int .i64) qq))], 1⟩) 2 (fun (qq : (List Int)) => ⟨tab [(4, .loc 0 0 qq.length)], ae [(0, .lst true none (List.map (D.int .i64) qq))], 1⟩) bw cG hl (by unfold bw; omega) ?_ ?_ ?_
 ·
  rintro i14 l13 xr19 hinv17 hgo16 h
  show aH _ _ _ _ _ ⟨tab [(3, .d (eL none (eL none (D.int .i64)) r1)), (4, .loc 0 0 l13.length), (24, vi (r1.length : Int)), (25, vi i14)], ae [(0, .lst true none (List.map (D.int .i64) l13))], 1⟩
  have hc18 : decide (i14 < (r1.length : Int)) = true := decide_eq_true hgo16
  refine am ⟨tab [(3, .d (eL none (eL none (D.int .i64)) r1)), (4, .loc 0 0 l13.length), (24, vi (r1.length : Int)), (25, vi i14), (26, vb (decide (i14 < (r1.length : Int))))], ae [(0, .lst true none (List.map (D.int .i64) l13))], 1⟩ ?_ ?_
  ·
   refine q1 _ ?_
   exact nR [0]
  refine cE 24 rfl fun hB15 => ?_
  refine aJ ?_
  refine bh (t := decide (i14 < (r1.length : Int))) rfl hc18 ?_
  refine bn ?_
  obtain ⟨l38, hv, h⟩ := az h
  refine hE ⟨tab [(3, .d (eL none (eL none (D.int .i64)) r1)), (4, .loc 0 0 l38.length), (24, vi (r1.length : Int)), (25, vi i14)], ae [(0, .lst true none (List.map (D.int .i64) l38))], 1⟩ ?_ ?_
  ·
   replace h := hv
   refine bv ?_
   refine am ⟨tab [(3, .d (eL none (eL none (D.int .i64)) r1)), (4, .loc 0 0 l13.length), (6, vi i14), (24, vi (r1.length : Int)), (25, vi i14)], ae [(0, .lst true none (List.map (D.int .i64) l13))], 1⟩ ?_ ?_
   ·
    iterate 2 refine q1 _ ?_
    exact nR [0]
   refine aJ ?_
   obtain ⟨x20, hx20, h⟩ := az h
   refine am ⟨tab [(3, .d (eL none (eL none (D.int .i64)) r1)), (4, .loc 0 0 l13.length), (6, vi i14), (24, vi (r1.length : Int)), (25, vi i14), (32, vb (decide (x20 ≥ 0)))], ae [(0, .lst true none (List.map (D.int .i64) l13))], 1⟩ ?_ ?_
   ·
    iterate 2 refine q1 _ ?_
    refine step (v := .ptr 0 i14.toNat 0) (eR (xs := l13) (e := (D.int .i64)) hx20 rfl rfl rfl rfl) ?_
    refine step (v := vi x20) (fL (xs := l13) (e := (D.int .i64)) hx20 rfl rfl rfl) ?_
    refine q1 _ ?_
    exact nR [0]
   by_cases hc21 : decide (x20 ≥ 0) = true
   ·
    replace h := bG hc21 h
    refine bh (t := decide (x20 ≥ 0)) rfl hc21 ?_
    have hh := aE h
    subst hh
    refine bo (s0 := ⟨tab [(3, .d (eL none (eL none (D.int .i64)) r1)), (4, .loc 0 0 l13.length), (24, vi (r1.length : Int)), (25, vi i14)], ae [(0, .lst true none (List.map (D.int .i64) l13))], 1⟩) (nr [0]) ?_
    refine ct ?_
    exact And.intro rfl rfl
   ·
    replace h := bH hc21 h
    refine bk (t := decide (x20 ≥ 0)) rfl hc21 ?_
    refine bn ?_
    obtain ⟨r22, hr22, h⟩ := az h
    refine am ⟨tab [(3, .d (eL none (eL none (D.int .i64)) r1)), (4, .loc 0 0 l13.length), (6, vi i14), (24, vi (r1.length : Int)), (25, vi i14), (35, aF r22), (36, vi (r22.length : Int)), (37, vi 0)], ae [(0, .lst true none (List.map (D.int .i64) l13))], 1⟩ ?_ ?_
    ·
     iterate 2 refine q1 _ ?_
     refine bM (r := eL none (D.int .i64) r22) (aS (aS ba.nil')) (kn hr22) ?_
     refine step (v := vi (r22.length : Int)) (bN (xs := r22) (e := (D.int .i64)) rfl) ?_
     refine q1 _ ?_
     exact nR [0]
    obtain ⟨z36, hl, h⟩ := az h
    refine bv ?_
    refine ff (cF (r22.length : Int)) (fun (i24 : Int) (qq : (List Int)) => ⟨tab [(3, .d (eL none (eL none (D.int .i64)) r1)), (4, .loc 0 0 qq.length), (6, vi i14), (24, vi (r1.length : Int)), (25, vi i14), (35, aF r22), (36, vi (r22.length : Int)), (37, vi i24)], ae [(0, .lst true none (List.map (D.int .i64) qq))], 1⟩) 4 (fun (qq : (List Int)) => ⟨tab [(3, .d (eL none (eL none (D.int .i64)) r1)), (4, .loc 0 0 qq.length), (24, vi (r1.length : Int)), (25, vi i14)], ae [(0, .lst true none (List.map (D.int .i64) qq))], 1⟩) bw cG hl (by unfold bw; omega) ?_ ?_ ?_
    ·
     rintro i24 l23 xr29 hinv27 hgo26 h
     show aH _ _ _ _ _ ⟨tab [(3, .d (eL none (eL none (D.int .i64)) r1)), (4, .loc 0 0 l23.length), (6, vi i14), (24, vi (r1.length : Int)), (25, vi i14), (35, aF r22), (36, vi (r22.length : Int)), (37, vi i24)], ae [(0, .lst true none (List.map (D.int .i64) l23))], 1⟩
     have hc28 : decide (i24 < (r22.length : Int)) = true := decide_eq_true hgo26
     refine am ⟨tab [(3, .d (eL none (eL none (D.int .i64)) r1)), (4, .loc 0 0 l23.length), (6, vi i14), (24, vi (r1.length : Int)), (25, vi i14), (35, aF r22), (36, vi (r22.length : Int)), (37, vi i24), (38, vb (decide (i24 < (r22.length : Int))))], ae [(0, .lst true none (List.map (D.int .i64) l23))], 1⟩ ?_ ?_
     ·
      refine q1 _ ?_
      exact nR [0]
     refine cE 36 rfl fun hB25 => ?_
     refine aJ ?_
     refine bh (t := decide (i24 < (r22.length : Int))) rfl hc28 ?_
     refine bn ?_
     obtain ⟨l34, hv, h⟩ := az h
     refine hE ⟨tab [(3, .d (eL none (eL none (D.int .i64)) r1)), (4, .loc 0 0 l34.length), (6, vi i14), (24, vi (r1.length : Int)), (25, vi i14), (35, aF r22), (36, vi (r22.length : Int)), (37, vi i24)], ae [(0, .lst true none (List.map (D.int .i64) l34))], 1⟩ ?_ ?_
     ·
      replace h := hv
      refine bv ?_
      obtain ⟨x30, hx30, h⟩ := az h
      refine am ⟨tab [(3, .d (eL none (eL none (D.int .i64)) r1)), (4, .loc 0 0 l23.length), (6, vi i14), (7, vi i24), (8, vi x30), (24, vi (r1.length : Int)), (25, vi i14), (35, aF r22), (36, vi (r22.length : Int)), (37, vi i24)], ae [(0, .lst true none (List.map (D.int .i64) l23))], 1⟩ ?_ ?_
      ·
       refine q1 _ ?_
       refine step (v := .d (.cptr none (.int .i64 x30) 0)) (bX (xs := r22) (e := (D.int .i64)) hx30 rfl rfl) ?_
       iterate 3 refine q1 _ ?_
       exact nR [0]
      refine am ⟨tab [(3, .d (eL none (eL none (D.int .i64)) r1)), (4, .loc 0 0 l23.length), (6, vi i14), (7, vi i24), (24, vi (r1.length : Int)), (25, vi i14), (35, aF r22), (36, vi (r22.length : Int)), (37, vi i24), (43, vb (decide (x30 ≥ 0)))], ae [(0, .lst true none (List.map (D.int .i64) l23))], 1⟩ ?_ ?_
      ·
       iterate 2 refine q1 _ ?_
       exact nR [0]
      by_cases hc31 : decide (x30 ≥ 0) = true
      ·
       replace h := bG hc31 h
       refine bh (t := decide (x30 ≥ 0)) rfl hc31 ?_
       obtain ⟨x32, hx32, h⟩ := az h
       obtain ⟨l33, hl33, h⟩ := az h
       have hh := aE h
       subst hh
       refine bT ⟨tab [(3, .d (eL none (eL none (D.int .i64)) r1)), (4, .loc 0 0 l33.length), (6, vi i14), (24, vi (r1.length : Int)), (25, vi i14), (35, aF r22), (36, vi (r22.length : Int)), (37, vi i24)], ae [(0, .lst true none (List.map (D.int .i64) l33))], 1⟩ ?_ ?_
       ·
        iterate 3 refine q1 _ ?_
        refine step (v := .ptr 0 i24.toNat 0) (eR (xs := l23) (e := (D.int .i64)) hx32 rfl rfl rfl rfl) ?_
        refine step (v := V.undef) (σ' := (ah (ae [(0, .lst true none (List.map (D.int .i64) l23))]) 0 (some (.lst true none (List.map (D.int .i64) l33))))) (n' := 1) (hJ (e := (D.int .i64)) (v' := i14) hl33 rfl rfl rfl rfl rfl) ?_
        exact aI.nil' (nm [0] ⟨.d _, .le (id := 0) (hI hl33).symm (show 0 < 1 by decide), .d _, .d _, .d _, .d _, .d _, .d _, trivial⟩ ⟨⟨show 0 < 1 by decide, _, rfl, .lst _ _ _⟩, trivial⟩)
       exact And.intro rfl rfl
      ·
       replace h := bH hc31 h
       refine bk (t := decide (x30 ≥ 0)) rfl hc31 ?_
       have hh := aE h
       subst hh
       refine bo (s0 := ⟨tab [(3, .d (eL none (eL none (D.int .i64)) r1)), (4, .loc 0 0 l23.length), (6, vi i14), (24, vi (r1.length : Int)), (25, vi i14), (35, aF r22), (36, vi (r22.length : Int)), (37, vi i24)], ae [(0, .lst true none (List.map (D.int .i64) l23))], 1⟩) (nr [0]) ?_
       refine bn ?_
       exact And.intro rfl rfl
     have hh := aE h
     subst hh
     refine bT ⟨tab [(3, .d (eL none (eL none (D.int .i64)) r1)), (4, .loc 0 0 l34.length), (6, vi i14), (24, vi (r1.length : Int)), (25, vi i14), (35, aF r22), (36, vi (r22.length : Int)), (37, vi (i24 + 1))], ae [(0, .lst true none (List.map (D.int .i64) l34))], 1⟩ ?_ ?_
     ·
      refine step (v := vi (i24 + 1)) (cH (cI hinv27 hgo26 hB25) rfl rfl) ?_
      refine q1 _ ?_
      exact nR [0]
     exact And.intro rfl rfl
    ·
     rintro i24 l23 hinv27 hgo26
     show aH _ _ _ _ _ ⟨tab [(3, .d (eL none (eL none (D.int .i64)) r1)), (4, .loc 0 0 l23.length), (6, vi i14), (24, vi (r1.length : Int)), (25, vi i14), (35, aF r22), (36, vi (r22.length : Int)), (37, vi i24)], ae [(0, .lst true none (List.map (D.int .i64) l23))], 1⟩
     have hc28 : ¬ (decide (i24 < (r22.length : Int)) = true) := fun hq => hgo26 (of_decide_eq_true hq)
     refine am ⟨tab [(3, .d (eL none (eL none (D.int .i64)) r1)), (4, .loc 0 0 l23.length), (6, vi i14), (24, vi (r1.length : Int)), (25, vi i14), (35, aF r22), (36, vi (r22.length : Int)), (37, vi i24), (38, vb (decide (i24 < (r22.length : Int))))], ae [(0, .lst true none (List.map (D.int .i64) l23))], 1⟩ ?_ ?_
     ·
      refine q1 _ ?_
      exact nR [0]
     refine aJ ?_
     refine bk (t := decide (i24 < (r22.length : Int))) rfl hc28 ?_
     refine bo (s0 := ⟨tab [(3, .d (eL none (eL none (D.int .i64)) r1)), (4, .loc 0 0 l23.length), (24, vi (r1.length : Int)), (25, vi i14)], ae [(0, .lst true none (List.map (D.int .i64) l23))], 1⟩) (nr [0]) ?_
     refine ct ?_
     exact And.intro rfl rfl
    have hh := aE h
    subst hh
    exact And.intro rfl rfl
  have hh := aE h
  subst hh
  refine bT ⟨tab [(3, .d (eL none (eL none (D.int .i64)) r1)), (4, .loc 0 0 l38.length), (24, vi (r1.length : Int)), (25, vi (i14 + 1))], ae [(0, .lst true none (List.map (D.int .i64) l38))], 1⟩ ?_ ?_
  ·
   refine step (v := vi (i14 + 1)) (cH (cI hinv17 hgo16 hB15) rfl rfl) ?_
   refine q1 _ ?_
   exact nR [0]
  exact And.intro rfl rfl
 ·
  rintro i14 l13 hinv17 hgo16
  show aH _ _ _ _ _ ⟨tab [(3, .d (eL none (eL none (D.int .i64)) r1)), (4, .loc 0 0 l13.length), (24, vi (r1.length : Int)), (25, vi i14)], ae [(0, .lst true none (List.map (D.int .i64) l13))], 1⟩
  have hc18 : ¬ (decide (i14 < (r1.length : Int)) = true) := fun hq => hgo16 (of_decide_eq_true hq)
  refine am ⟨tab [(3, .d (eL none (eL none (D.int .i64)) r1)), (4, .loc 0 0 l13.length), (24, vi (r1.length : Int)), (25, vi i14), (26, vb (decide (i14 < (r1.length : Int))))], ae [(0, .lst true none (List.map (D.int .i64) l13))], 1⟩ ?_ ?_
  ·
   refine q1 _ ?_
   exact nR [0]
  refine aJ ?_
  refine bk (t := decide (i14 < (r1.length : Int))) rfl hc18 ?_
  refine bo (s0 := ⟨tab [(4, .loc 0 0 l13.length)], ae [(0, .lst true none (List.map (D.int .i64) l13))], 1⟩) (nr [0]) ?_
  refine ct ?_
  exact And.intro rfl rfl
 refine am ⟨tab [(2, .loc 0 0 z40.length)], ae [(0, .lst true none (List.map (D.int .i64) z40))], 1⟩ ?_ ?_
 ·
  iterate 2 refine q1 _ ?_
  exact nR [0]
 have hh := aE h
 subst hh
 refine bE ?_
 show FQ _ _ _ _
 exact bZ (.inr rfl) (bx (v := .loc 0 0 z40.length) rfl rfl) (RV.loc (xs := z40) (e := (D.int .i64)) rfl rfl trivial)
theorem c_law29_GraphFar {a0 : api_Topo} {a1 : (A3 Int)} {r : Bool} (h : law29_GraphFar a0 a1 = some r) : PCall Try.prog 8 [eapi_Topo a0, eA3 (D.int .u8) a1] (.bool r) := by
 refine PCall.introN ut (show 2 ≤ 175 by decide) ?_
 refine bo (s0 := ⟨tab [(0, vs1 a0), (1, .d (eA3 (D.int .u8) a1))], ae [], 0⟩) (nr []) ?_
 refine am ⟨tab [(2, aG a0), (3, .d (.cptr (some 3) (eA3 (D.int .u8) a1) 0))], ae [], 0⟩ ?_ ?_
 ·
  iterate 3 refine q1 _ ?_
  exact nR []
 refine aJ ?_
 obtain ⟨r1, hr1, h⟩ := az h
 refine am ⟨tab [(2, aG a0), (3, .d (.cptr (some 3) (eA3 (D.int .u8) a1) 0)), (20, vb (!r1))], ae [], 0⟩ ?_ ?_
 ·
  refine bM (r := .bool r1) ba.nil' (uY hr1) ?_
  refine q1 _ ?_
  exact nR []
 by_cases hc2 : (!r1) = true
 ·
  replace h := bG hc2 h
  refine bh (t := (!r1)) rfl hc2 ?_
  refine am ⟨tab [(4, vb false)], ae [], 0⟩ ?_ ?_
  ·
   refine q1 _ ?_
   exact nR []
  have hh := aE h
  subst hh
  refine bE ?_
  show FQ _ _ _ _
  exact bZ (.inr rfl) (bx (v := vb false) rfl rfl) (RV.d trivial)
 ·
  replace h := bH hc2 h
  refine bk (t := (!r1)) rfl hc2 ?_
  refine bn ?_
  refine aJ ?_
  obtain ⟨r3, hr3, h⟩ := az h
  refine am ⟨tab [(2, aG a0), (3, .d (.cptr (some 3) (eA3 (D.int .u8) a1) 0)), (29, vb ((r3 != 0) || ((a0.Switches.length : Int) == 0)))], ae [], 0⟩ ?_ ?_
  ·
   refine q1 _ ?_
   refine bM (r := .int .i64 r3) (aS ba.nil') (u1 hr3) ?_
   iterate 2 refine q1 _ ?_
   by_cases hg4 : (r3 != 0) = true
   ·
    iterate 4 refine qX (r3 != 0) (by rw [hg4]; decide) ?_
    refine step (v := vb true) (bF (b := (r3 != 0)) rfl hg4 rfl) ?_
    exact aI.nil' (nm [] ⟨.d _, .d _, .eq (by first | (simp [hg4]; done) | (simp_all; done) | grind), trivial⟩ trivial)
   ·
    refine qG (r3 != 0) (Bool.eq_false_iff.2 hg4) ?_
    refine q1 _ ?_
    refine qG (r3 != 0) (Bool.eq_false_iff.2 hg4) ?_
    refine q1 _ ?_
    refine qG (r3 != 0) (Bool.eq_false_iff.2 hg4) ?_
    refine step (v := vi (a0.Switches.length : Int)) (bN (xs := a0.Switches) (e := (D.int .u16)) rfl) ?_
    refine qG (r3 != 0) (Bool.eq_false_iff.2 hg4) ?_
    refine q1 _ ?_
    refine step (v := vb ((a0.Switches.length : Int) == 0)) (bA (b := (r3 != 0)) rfl hg4 rfl) ?_
    exact aI.nil' (nm [] ⟨.d _, .d _, .eq (by first | (simp [hg4]; done) | (simp_all; done) | grind), trivial⟩ trivial)
  by_cases hc5 : ((r3 != 0) || ((a0.Switches.length : Int) == 0)) = true
  ·
   replace h := bG hc5 h
   refine bh (t := ((r3 != 0) || ((a0.Switches.length : Int) == 0))) rfl hc5 ?_
   refine am ⟨tab [(4, vb true)], ae [], 0⟩ ?_ ?_
   ·
    refine q1 _ ?_
    exact nR []
   have hh := aE h
   subst hh
   refine bE ?_
   show FQ _ _ _ _
   exact bZ (.inr rfl) (bx (v := vb true) rfl rfl) (RV.d trivial)
  ·
   replace h := bH hc5 h
   refine bk (t := ((r3 != 0) || ((a0.Switches.length : Int) == 0))) rfl hc5 ?_
   refine bn ?_
   refine am ⟨tab [(2, aG a0), (3, .d (.cptr (some 3) (eA3 (D.int .u8) a1) 0)), (5, vi (a0.Switches.length : Int))], ae [], 0⟩ ?_ ?_
   ·
    iterate 2 refine q1 _ ?_
    refine step (v := vi (a0.Switches.length : Int)) (bN (xs := a0.Switches) (e := (D.int .u16)) rfl) ?_
    refine q1 _ ?_
    exact nR []
   obtain ⟨q6, hq6, h⟩ := az h
   obtain ⟨q7, hq7, h⟩ := az h
   obtain ⟨q8, hq8, h⟩ := az h
   refine am ⟨tab [(2, aG a0), (5, vi (a0.Switches.length : Int)), (6, vi q6), (7, vi q7), (8, vi q8)], ae [], 0⟩ ?_ ?_
   ·
    iterate 4 refine q1 _ ?_
    refine step (v := vi q6) (lM hq6 rfl rfl) ?_
    iterate 4 refine q1 _ ?_
    refine step (v := vi q7) (lM hq7 rfl rfl) ?_
    iterate 4 refine q1 _ ?_
    refine step (v := vi q8) (lM hq8 rfl rfl) ?_
    iterate 3 refine q1 _ ?_
    exact nR []
   obtain ⟨r9, hr9, h⟩ := az h
   obtain ⟨r10, hr10, h⟩ := az h
   obtain ⟨r11, hr11, h⟩ := az h
   refine am ⟨tab [(2, aG a0), (5, vi (a0.Switches.length : Int)), (6, vi q6), (7, vi q7), (9, vi r9), (10, vi r10), (11, vi r11)], ae [], 0⟩ ?_ ?_
   ·
    iterate 3 refine q1 _ ?_
    refine bM (r := .int .i64 r9) (aS (aS (aS ba.nil'))) (ip hr9) ?_
    iterate 3 refine q1 _ ?_
    refine bM (r := .int .i64 r10) (aS (aS (aS ba.nil'))) (ip hr10) ?_
    iterate 3 refine q1 _ ?_
    refine bM (r := .int .i64 r11) (aS (aS (aS ba.nil'))) (ip hr11) ?_
    iterate 3 refine q1 _ ?_
    exact nR []
   refine aJ ?_
   obtain ⟨r12, hr12, h⟩ := az h
   refine am ⟨tab [(2, aG a0), (5, vi (a0.Switches.length : Int)), (6, vi q6), (7, vi q7), (9, vi r9), (92, vb ((r9 != r12) || (if decide (r9 ≥ 0) then (if decide (r10 ≥ 0) then ((decide (r11 < 0)) || ((decide (r11 > (IntKind.i64.wrap (r9 + r10)))) || (!((r9 == 0) == (q6 == q7))))) else (!((r9 == 0) == (q6 == q7)))) else (!((r9 == 0) == (q6 == q7))))))], ae [], 0⟩ ?_ ?_
   ·
    iterate 4 refine q1 _ ?_
    refine bM (r := .int .i64 r12) (aS (aS (aS ba.nil'))) (ip hr12) ?_
    iterate 2 refine q1 _ ?_
    by_cases hg13 : (r9 != r12) = true
    ·
     iterate 3 refine qX (r9 != r12) (by rw [hg13]; decide) ?_
     refine cu rfl ?_
     refine cu rfl ?_
     iterate 2 refine qX (r9 != r12) (by rw [hg13]; decide) ?_
     refine cu rfl ?_
     refine cu rfl ?_
     refine cu rfl ?_
     refine cu rfl ?_
     refine cu rfl ?_
     refine cu rfl ?_
     refine cu rfl ?_
     refine cu rfl ?_
     refine cu rfl ?_
     refine qX (r9 != r12) (by rw [hg13]; decide) ?_
     refine step (v := vb true) (bF (b := (r9 != r12)) rfl hg13 rfl) ?_
     refine q1 _ ?_
     iterate 6 refine qX true (by decide) ?_
     refine step (v := vb true) (bF (b := true) rfl rfl rfl) ?_
     exact aI.nil' (nm [] ⟨.d _, .d _, .d _, .d _, .d _, .eq (by first | (simp [hg13]; done) | (simp_all; done) | grind), trivial⟩ trivial)
    ·
     refine qG (r9 != r12) (Bool.eq_false_iff.2 hg13) ?_
     refine q1 _ ?_
     refine qG (r9 != r12) (Bool.eq_false_iff.2 hg13) ?_
     refine q1 _ ?_
     refine qG (r9 != r12) (Bool.eq_false_iff.2 hg13) ?_
     refine q1 _ ?_
     by_cases hg14 : decide (r9 ≥ 0) = true
     ·
      refine qG _ hg14 ?_
      refine q1 _ ?_
      refine qG _ hg14 ?_
      refine q1 _ ?_
      refine qG (r9 != r12) (Bool.eq_false_iff.2 hg13) ?_
      refine step (v := vb (decide (r10 ≥ 0))) (bF (b := decide (r9 ≥ 0)) rfl hg14 rfl) ?_
      refine qG (r9 != r12) (Bool.eq_false_iff.2 hg13) ?_
      refine q1 _ ?_
      by_cases hg15 : decide (r10 ≥ 0) = true
      ·
       refine qG _ hg15 ?_
       refine q1 _ ?_
       refine qG _ hg15 ?_
       refine q1 _ ?_
       refine qG _ hg15 ?_
       refine q1 _ ?_
       by_cases hg16 : decide (r11 < 0) = true
       ·
        iterate 5 refine qX (decide (r11 < 0)) (by rw [hg16]; decide) ?_
        refine qG _ hg15 ?_
        refine step (v := vb true) (bF (b := decide (r11 < 0)) rfl hg16 rfl) ?_
        refine qG (r9 != r12) (Bool.eq_false_iff.2 hg13) ?_
        refine step (v := vb true) (bF (b := decide (r10 ≥ 0)) rfl hg15 rfl) ?_
        refine step (v := vb true) (bA (b := (r9 != r12)) rfl hg13 rfl) ?_
        refine q1 _ ?_
        iterate 6 refine qX true (by decide) ?_
        refine step (v := vb true) (bF (b := true) rfl rfl rfl) ?_
        exact aI.nil' (nm [] ⟨.d _, .d _, .d _, .d _, .d _, .eq (by first | (simp [hg13, hg14, hg15, hg16]; done) | (simp_all; done) | grind), trivial⟩ trivial)
       ·
        refine qG (decide (r11 < 0)) (Bool.eq_false_iff.2 hg16) ?_
        refine q1 _ ?_
        refine qG (decide (r11 < 0)) (Bool.eq_false_iff.2 hg16) ?_
        refine q1 _ ?_
        refine qG (decide (r11 < 0)) (Bool.eq_false_iff.2 hg16) ?_
        refine q1 _ ?_
        refine qG (decide (r11 < 0)) (Bool.eq_false_iff.2 hg16) ?_
        refine q1 _ ?_
        refine qG (decide (r11 < 0)) (Bool.eq_false_iff.2 hg16) ?_
        refine q1 _ ?_
        refine qG _ hg15 ?_
        refine step (v := vb (decide (r11 > (IntKind.i64.wrap (r9 + r10))))) (bA (b := decide (r11 < 0)) rfl hg16 rfl) ?_
        refine qG (r9 != r12) (Bool.eq_false_iff.2 hg13) ?_
        refine step (v := vb (decide (r11 > (IntKind.i64.wrap (r9 + r10))))) (bF (b := decide (r10 ≥ 0)) rfl hg15 rfl) ?_
        refine step (v := vb (decide (r11 > (IntKind.i64.wrap (r9 + r10))))) (bA (b := (r9 != r12)) rfl hg13 rfl) ?_
        refine q1 _ ?_
        by_cases hg17 : decide (r11 > (IntKind.i64.wrap (r9 + r10))) = true
        ·
         iterate 6 refine qX (decide (r11 > (IntKind.i64.wrap (r9 + r10)))) (by rw [hg17]; decide) ?_
         refine step (v := vb true) (bF (b := decide (r11 > (IntKind.i64.wrap (r9 + r10)))) rfl hg17 rfl) ?_
         exact aI.nil' (nm [] ⟨.d _, .d _, .d _, .d _, .d _, .eq (by first | (simp [hg13, hg14, hg15, hg16, hg17]; done) | (simp_all; done) | grind), trivial⟩ trivial)
        ·
         refine qG (decide (r11 > (IntKind.i64.wrap (r9 + r10)))) (Bool.eq_false_iff.2 hg17) ?_
         refine q1 _ ?_
         refine qG (decide (r11 > (IntKind.i64.wrap (r9 + r10)))) (Bool.eq_false_iff.2 hg17) ?_
         refine q1 _ ?_
         refine qG (decide (r11 > (IntKind.i64.wrap (r9 + r10)))) (Bool.eq_false_iff.2 hg17) ?_
         refine q1 _ ?_
         refine qG (decide (r11 > (IntKind.i64.wrap (r9 + r10)))) (Bool.eq_false_iff.2 hg17) ?_
         refine q1 _ ?_
         refine qG (decide (r11 > (IntKind.i64.wrap (r9 + r10)))) (Bool.eq_false_iff.2 hg17) ?_
         refine q1 _ ?_
         refine qG (decide (r11 > (IntKind.i64.wrap (r9 + r10)))) (Bool.eq_false_iff.2 hg17) ?_
         refine q1 _ ?_
         refine step (v := vb (!((r9 == 0) == (q6 == q7)))) (bA (b := decide (r11 > (IntKind.i64.wrap (r9 + r10)))) rfl hg17 rfl) ?_
         exact aI.nil' (nm [] ⟨.d _, .d _, .d _, .d _, .d _, .eq (by first | (simp [hg13, hg14, hg15, hg16, hg17]; done) | (simp_all; done) | grind), trivial⟩ trivial)
      ·
       iterate 3 refine qX _ hg15 ?_
       refine cu rfl ?_
       refine cu rfl ?_
       refine cu rfl ?_
       refine cu rfl ?_
       refine cu rfl ?_
       refine qX _ hg15 ?_
       refine qG (r9 != r12) (Bool.eq_false_iff.2 hg13) ?_
       refine step (v := vb false) (bA (b := decide (r10 ≥ 0)) rfl hg15 rfl) ?_
       refine step (v := vb false) (bA (b := (r9 != r12)) rfl hg13 rfl) ?_
       refine q1 _ ?_
       refine qG false rfl ?_
       refine q1 _ ?_
       refine qG false rfl ?_
       refine q1 _ ?_
       refine qG false rfl ?_
       refine q1 _ ?_
       refine qG false rfl ?_
       refine q1 _ ?_
       refine qG false rfl ?_
       refine q1 _ ?_
       refine qG false rfl ?_
       refine q1 _ ?_
       refine step (v := vb (!((r9 == 0) == (q6 == q7)))) (bA (b := false) rfl (by decide) rfl) ?_
       exact aI.nil' (nm [] ⟨.d _, .d _, .d _, .d _, .d _, .eq (by first | (simp [hg13, hg14, hg15]; done) | (simp_all; done) | grind), trivial⟩ trivial)
     ·
      iterate 2 refine qX _ hg14 ?_
      refine qG (r9 != r12) (Bool.eq_false_iff.2 hg13) ?_
      refine step (v := vb false) (bA (b := decide (r9 ≥ 0)) rfl hg14 rfl) ?_
      refine qG (r9 != r12) (Bool.eq_false_iff.2 hg13) ?_
      refine q1 _ ?_
      iterate 3 refine qX false (by decide) ?_
      refine cu rfl ?_
      refine cu rfl ?_
      refine cu rfl ?_
      refine cu rfl ?_
      refine cu rfl ?_
      refine qX false (by decide) ?_
      refine qG (r9 != r12) (Bool.eq_false_iff.2 hg13) ?_
      refine step (v := vb false) (bA (b := false) rfl (by decide) rfl) ?_
      refine step (v := vb false) (bA (b := (r9 != r12)) rfl hg13 rfl) ?_
      refine q1 _ ?_
      refine qG false rfl ?_
      refine q1 _ ?_
      refine qG false rfl ?_
      refine q1 _ ?_
      refine qG false rfl ?_
      refine q1 _ ?_
      refine qG false rfl ?_
      refine q1 _ ?_
      refine qG false rfl ?_
      refine q1 _ ?_
      refine qG false rfl ?_
      refine q1 _ ?_
      refine step (v := vb (!((r9 == 0) == (q6 == q7)))) (bA (b := false) rfl (by decide) rfl) ?_
      exact aI.nil' (nm [] ⟨.d _, .d _, .d _, .d _, .d _, .eq (by first | (simp [hg13, hg14]; done) | (simp_all; done) | grind), trivial⟩ trivial)
   by_cases hc18 : ((r9 != r12) || (if decide (r9 ≥ 0) then (if decide (r10 ≥ 0) then ((decide (r11 < 0)) || ((decide (r11 > (IntKind.i64.wrap (r9 + r10)))) || (!((r9 == 0) == (q6 == q7))))) else (!((r9 == 0) == (q6 == q7)))) else (!((r9 == 0) == (q6 == q7))))) = true
   ·
    replace h := bG hc18 h
    refine bh (t := ((r9 != r12) || (if decide (r9 ≥ 0) then (if decide (r10 ≥ 0) then ((decide (r11 < 0)) || ((decide (r11 > (IntKind.i64.wrap (r9 + r10)))) || (!((r9 == 0) == (q6 == q7))))) else (!((r9 == 0) == (q6 == q7)))) else (!((r9 == 0) == (q6 == q7)))))) rfl hc18 ?_
    refine am ⟨tab [(4, vb false)], ae [], 0⟩ ?_ ?_
    ·
     refine q1 _ ?_
     exact nR []
    have hh := aE h
    subst hh
    refine bE ?_
    show FQ _ _ _ _
    exact bZ (.inr rfl) (bx (v := vb false) rfl rfl) (RV.d trivial)
   ·
    replace h := bH hc18 h
    refine bk (t := ((r9 != r12) || (if decide (r9 ≥ 0) then (if decide (r10 ≥ 0) then ((decide (r11 < 0)) || ((decide (r11 > (IntKind.i64.wrap (r9 + r10)))) || (!((r9 == 0) == (q6 == q7))))) else (!((r9 == 0) == (q6 == q7)))) else (!((r9 == 0) == (q6 == q7)))))) rfl hc18 ?_
    refine bn ?_
    obtain ⟨r19, hr19, h⟩ := az h
    refine am ⟨tab [(2, aG a0), (5, vi (a0.Switches.length : Int)), (6, vi q6), (7, vi q7), (9, vi r9), (12, aF r19.1), (13, vb r19.2)], ae [], 0⟩ ?_ ?_
    ·
     iterate 3 refine q1 _ ?_
     refine bM (r := .tup [eL none (D.int .i64) r19.1, .bool r19.2]) (aS (aS (aS ba.nil'))) (pj hr19) ?_
     iterate 5 refine q1 _ ?_
     exact nR []
    refine aJ ?_
    refine am ⟨tab [(2, aG a0), (5, vi (a0.Switches.length : Int)), (6, vi q6), (7, vi q7), (9, vi r9), (12, aF r19.1), (113, vb ((!(r19.2 == (decide (r9 ≥ 0)))) || (r19.2 && ((r19.1.length : Int) != (IntKind.i64.wrap (r9 + 1))))))], ae [], 0⟩ ?_ ?_
    ·
     iterate 5 refine q1 _ ?_
     by_cases hg20 : (!(r19.2 == (decide (r9 ≥ 0)))) = true
     ·
      iterate 2 refine qX (!(r19.2 == (decide (r9 ≥ 0)))) (by rw [hg20]; decide) ?_
      refine cu rfl ?_
      refine cu rfl ?_
      refine cu rfl ?_
      refine cu rfl ?_
      refine cu rfl ?_
      refine qX (!(r19.2 == (decide (r9 ≥ 0)))) (by rw [hg20]; decide) ?_
      refine step (v := vb true) (bF (b := (!(r19.2 == (decide (r9 ≥ 0))))) rfl hg20 rfl) ?_
      exact aI.nil' (nm [] ⟨.d _, .d _, .d _, .d _, .d _, .d _, .eq (by first | (simp [hg20]; done) | (simp_all; done) | grind), trivial⟩ trivial)
     ·
      refine qG (!(r19.2 == (decide (r9 ≥ 0)))) (Bool.eq_false_iff.2 hg20) ?_
      refine q1 _ ?_
      refine qG (!(r19.2 == (decide (r9 ≥ 0)))) (Bool.eq_false_iff.2 hg20) ?_
      refine q1 _ ?_
      by_cases hg21 : r19.2 = true
      ·
       refine qG _ hg21 ?_
       refine q1 _ ?_
       refine qG _ hg21 ?_
       refine step (v := vi (r19.1.length : Int)) (bN (xs := r19.1) (e := (D.int .i64)) rfl) ?_
       refine qG _ hg21 ?_
       refine q1 _ ?_
       refine qG _ hg21 ?_
       refine q1 _ ?_
       refine qG _ hg21 ?_
       refine q1 _ ?_
       refine qG (!(r19.2 == (decide (r9 ≥ 0)))) (Bool.eq_false_iff.2 hg20) ?_
       refine step (v := vb ((r19.1.length : Int) != (IntKind.i64.wrap (r9 + 1)))) (bF (b := r19.2) rfl hg21 rfl) ?_
       refine step (v := vb ((r19.1.length : Int) != (IntKind.i64.wrap (r9 + 1)))) (bA (b := (!(r19.2 == (decide (r9 ≥ 0))))) rfl hg20 rfl) ?_
       exact aI.nil' (nm [] ⟨.d _, .d _, .d _, .d _, .d _, .d _, .eq (by first | (simp [hg20, hg21]; done) | (simp_all; done) | grind), trivial⟩ trivial)
      ·
       iterate 5 refine qX _ hg21 ?_
       refine qG (!(r19.2 == (decide (r9 ≥ 0)))) (Bool.eq_false_iff.2 hg20) ?_
       refine step (v := vb false) (bA (b := r19.2) rfl hg21 rfl) ?_
       refine step (v := vb false) (bA (b := (!(r19.2 == (decide (r9 ≥ 0))))) rfl hg20 rfl) ?_
       exact aI.nil' (nm [] ⟨.d _, .d _, .d _, .d _, .d _, .d _, .eq (by first | (simp [hg20, hg21]; done) | (simp_all; done) | grind), trivial⟩ trivial)
    by_cases hc22 : ((!(r19.2 == (decide (r9 ≥ 0)))) || (r19.2 && ((r19.1.length : Int) != (IntKind.i64.wrap (r9 + 1))))) = true
    ·
     replace h := bG hc22 h
     refine bh (t := ((!(r19.2 == (decide (r9 ≥ 0)))) || (r19.2 && ((r19.1.length : Int) != (IntKind.i64.wrap (r9 + 1)))))) rfl hc22 ?_
     refine am ⟨tab [(4, vb false)], ae [], 0⟩ ?_ ?_
     ·
      refine q1 _ ?_
      exact nR []
     have hh := aE h
     subst hh
     refine bE ?_
     show FQ _ _ _ _
     exact bZ (.inr rfl) (bx (v := vb false) rfl rfl) (RV.d trivial)
    ·
     replace h := bH hc22 h
     refine bk (t := ((!(r19.2 == (decide (r9 ≥ 0)))) || (r19.2 && ((r19.1.length : Int) != (IntKind.i64.wrap (r9 + 1)))))) rfl hc22 ?_
     refine bn ?_
     refine aJ ?_
     refine am ⟨tab [(2, aG a0), (5, vi (a0.Switches.length : Int)), (6, vi q6), (7, vi q7), (9, vi r9), (12, aF r19.1), (14, vi 1)], ae [], 0⟩ ?_ ?_
     ·
      refine q1 _ ?_
      exact nR []
     obtain ⟨q57, hl, h⟩ := az h
     refine bv ?_
     refine eQ (cF (r19.1.length : Int)) (fun (i23 : Int) (qq : Unit) => ⟨tab [(2, aG a0), (5, vi (a0.Switches.length : Int)), (6, vi q6), (7, vi q7), (9, vi r9), (12, aF r19.1), (14, vi i23)], ae [], 0⟩) 0 (fun (qq : Unit) => ⟨tab [(2, aG a0), (5, vi (a0.Switches.length : Int)), (6, vi q6), (7, vi q7), (9, vi r9)], ae [], 0⟩) bw cG (r := r) hl (by unfold bw; omega) ?_ ?_ ?_ ?_
     ·
      rintro i23 ⟨⟩ xr28 hinv26 hgo25 h
      show aH _ _ _ _ _ ⟨tab [(2, aG a0), (5, vi (a0.Switches.length : Int)), (6, vi q6), (7, vi q7), (9, vi r9), (12, aF r19.1), (14, vi i23)], ae [], 0⟩
      have hc27 : decide (i23 < (r19.1.length : Int)) = true := decide_eq_true hgo25
      refine aJ ?_
      refine am ⟨tab [(2, aG a0), (5, vi (a0.Switches.length : Int)), (6, vi q6), (7, vi q7), (9, vi r9), (12, aF r19.1), (14, vi i23), (116, vi (r19.1.length : Int)), (117, vb (decide (i23 < (r19.1.length : Int))))], ae [], 0⟩ ?_ ?_
      ·
       iterate 2 refine q1 _ ?_
       refine step (v := vi (r19.1.length : Int)) (bN (xs := r19.1) (e := (D.int .i64)) rfl) ?_
       refine q1 _ ?_
       exact nR []
      refine cE 116 rfl fun hB24 => ?_
      refine bh (t := decide (i23 < (r19.1.length : Int))) rfl hc27 ?_
      refine bn ?_
      refine aJ ?_
      refine bv ?_
      refine am ⟨tab [(2, aG a0), (5, vi (a0.Switches.length : Int)), (6, vi q6), (7, vi q7), (9, vi r9), (12, aF r19.1), (14, vi i23), (15, vb false)], ae [], 0⟩ ?_ ?_
      ·
       refine q1 _ ?_
       exact nR []
      refine aJ ?_
      obtain ⟨x29, hx29, h⟩ := az h
      obtain ⟨r30, hr30, h⟩ := az h
      refine am ⟨tab [(2, aG a0), (5, vi (a0.Switches.length : Int)), (6, vi q6), (7, vi q7), (9, vi r9), (12, aF r19.1), (14, vi i23), (15, vb false), (126, aF r30), (127, vi (r30.length : Int)), (128, vi 0)], ae [], 0⟩ ?_ ?_
      ·
       iterate 4 refine q1 _ ?_
       refine step (v := .d (.cptr none (.int .i64 x29) 0)) (bX (xs := r19.1) (e := (D.int .i64)) hx29 rfl rfl) ?_
       refine q1 _ ?_
       refine bM (r := eL none (D.int .i64) r30) (aS (aS ba.nil')) (u3 hr30) ?_
       refine step (v := vi (r30.length : Int)) (bN (xs := r30) (e := (D.int .i64)) rfl) ?_
       refine q1 _ ?_
       exact nR []
      obtain ⟨z43, hl, h⟩ := az h
      refine bv ?_
      refine ff (cF (r30.length : Int)) (fun (i32 : Int) (qq : Bool) => ⟨tab [(2, aG a0), (5, vi (a0.Switches.length : Int)), (6, vi q6), (7, vi q7), (9, vi r9), (12, aF r19.1), (14, vi i23), (15, vb qq), (126, aF r30), (127, vi (r30.length : Int)), (128, vi i32)], ae [], 0⟩) 2 (fun (qq : Bool) => ⟨tab [(2, aG a0), (5, vi (a0.Switches.length : Int)), (6, vi q6), (7, vi q7), (9, vi r9), (12, aF r19.1), (14, vi i23), (15, vb qq)], ae [], 0⟩) bw cG hl (by unfold bw; omega) ?_ ?_ ?_
      ·
       rintro i32 y31 xr37 hinv35 hgo34 h
       show aH _ _ _ _ _ ⟨tab [(2, aG a0), (5, vi (a0.Switches.length : Int)), (6, vi q6), (7, vi q7), (9, vi r9), (12, aF r19.1), (14, vi i23), (15, vb y31), (126, aF r30), (127, vi (r30.length : Int)), (128, vi i32)], ae [], 0⟩
       have hc36 : decide (i32 < (r30.length : Int)) = true := decide_eq_true hgo34
       refine am ⟨tab [(2, aG a0), (5, vi (a0.Switches.length : Int)), (6, vi q6), (7, vi q7), (9, vi r9), (12, aF r19.1), (14, vi i23), (15, vb y31), (126, aF r30), (127, vi (r30.length : Int)), (128, vi i32), (129, vb (decide (i32 < (r30.length : Int))))], ae [], 0⟩ ?_ ?_
       ·
        refine q1 _ ?_
        exact nR []
       refine cE 127 rfl fun hB33 => ?_
       refine aJ ?_
       refine bh (t := decide (i32 < (r30.length : Int))) rfl hc36 ?_
       refine bn ?_
       refine aJ ?_
       refine bv ?_
       obtain ⟨x38, hx38, h⟩ := az h
       refine am ⟨tab [(2, aG a0), (5, vi (a0.Switches.length : Int)), (6, vi q6), (7, vi q7), (9, vi r9), (12, aF r19.1), (14, vi i23), (15, vb y31), (17, vi x38), (126, aF r30), (127, vi (r30.length : Int)), (128, vi i32)], ae [], 0⟩ ?_ ?_
       ·
        refine step (v := .d (.cptr none (.int .i64 x38) 0)) (bX (xs := r30) (e := (D.int .i64)) hx38 rfl rfl) ?_
        iterate 2 refine q1 _ ?_
        exact nR []
       obtain ⟨y41, hv, h⟩ := az h
       refine bT ⟨tab [(2, aG a0), (5, vi (a0.Switches.length : Int)), (6, vi q6), (7, vi q7), (9, vi r9), (12, aF r19.1), (14, vi i23), (15, vb y41), (126, aF r30), (127, vi (r30.length : Int)), (128, vi i32)], ae [], 0⟩ ?_ ?_
       ·
        iterate 2 refine q1 _ ?_
        by_cases hg39 : y31 = true
        ·
         replace hv := bG hg39 hv
         iterate 6 refine qX y31 (by rw [hg39]; decide) ?_
         refine step (v := vb true) (bF (b := y31) rfl hg39 rfl) ?_
         refine q1 _ ?_
         have hh := aE hv
         subst hh
         exact nR []
        ·
         replace hv := bH hg39 hv
         obtain ⟨x40, hx40, hv⟩ := az hv
         refine qG y31 (Bool.eq_false_iff.2 hg39) ?_
         refine q1 _ ?_
         refine qG y31 (Bool.eq_false_iff.2 hg39) ?_
         refine q1 _ ?_
         refine qG y31 (Bool.eq_false_iff.2 hg39) ?_
         refine q1 _ ?_
         refine qG y31 (Bool.eq_false_iff.2 hg39) ?_
         refine step (v := .d (.cptr none (.int .i64 x40) 0)) (bX (xs := r19.1) (e := (D.int .i64)) hx40 rfl rfl) ?_
         refine qG y31 (Bool.eq_false_iff.2 hg39) ?_
         refine q1 _ ?_
         refine qG y31 (Bool.eq_false_iff.2 hg39) ?_
         refine q1 _ ?_
         refine step (v := vb (x38 == x40)) (bA (b := y31) rfl hg39 rfl) ?_
         refine q1 _ ?_
         have hh := aE hv
         subst hh
         exact nR []
       have hh := aE h
       subst hh
       refine bT ⟨tab [(2, aG a0), (5, vi (a0.Switches.length : Int)), (6, vi q6), (7, vi q7), (9, vi r9), (12, aF r19.1), (14, vi i23), (15, vb y41), (126, aF r30), (127, vi (r30.length : Int)), (128, vi (i32 + 1))], ae [], 0⟩ ?_ ?_
       ·
        refine step (v := vi (i32 + 1)) (cH (cI hinv35 hgo34 hB33) rfl rfl) ?_
        refine q1 _ ?_
        exact nR []
       exact And.intro rfl rfl
      ·
       rintro i32 y31 hinv35 hgo34
       show aH _ _ _ _ _ ⟨tab [(2, aG a0), (5, vi (a0.Switches.length : Int)), (6, vi q6), (7, vi q7), (9, vi r9), (12, aF r19.1), (14, vi i23), (15, vb y31), (126, aF r30), (127, vi (r30.length : Int)), (128, vi i32)], ae [], 0⟩
       have hc36 : ¬ (decide (i32 < (r30.length : Int)) = true) := fun hq => hgo34 (of_decide_eq_true hq)
       refine am ⟨tab [(2, aG a0), (5, vi (a0.Switches.length : Int)), (6, vi q6), (7, vi q7), (9, vi r9), (12, aF r19.1), (14, vi i23), (15, vb y31), (126, aF r30), (127, vi (r30.length : Int)), (128, vi i32), (129, vb (decide (i32 < (r30.length : Int))))], ae [], 0⟩ ?_ ?_
       ·
        refine q1 _ ?_
        exact nR []
       refine aJ ?_
       refine bk (t := decide (i32 < (r30.length : Int))) rfl hc36 ?_
       refine bo (s0 := ⟨tab [(2, aG a0), (5, vi (a0.Switches.length : Int)), (6, vi q6), (7, vi q7), (9, vi r9), (12, aF r19.1), (14, vi i23), (15, vb y31)], ae [], 0⟩) (nr []) ?_
       refine ct ?_
       exact And.intro rfl rfl
      obtain ⟨y47, hv, h⟩ := az h
      refine am ⟨tab [(2, aG a0), (5, vi (a0.Switches.length : Int)), (6, vi q6), (7, vi q7), (9, vi r9), (12, aF r19.1), (14, vi i23), (154, vb y47)], ae [], 0⟩ ?_ ?_
      ·
       iterate 3 refine q1 _ ?_
       by_cases hg44 : (!z43) = true
       ·
        replace hv := bG hg44 hv
        iterate 9 refine qX (!z43) (by rw [hg44]; decide) ?_
        refine step (v := vb true) (bF (b := (!z43)) rfl hg44 rfl) ?_
        have hh := aE hv
        subst hh
        exact nR []
       ·
        replace hv := bH hg44 hv
        obtain ⟨x45, hx45, hv⟩ := az hv
        obtain ⟨r46, hr46, hv⟩ := az hv
        refine qG (!z43) (Bool.eq_false_iff.2 hg44) ?_
        refine q1 _ ?_
        refine qG (!z43) (Bool.eq_false_iff.2 hg44) ?_
        refine q1 _ ?_
        refine qG (!z43) (Bool.eq_false_iff.2 hg44) ?_
        refine q1 _ ?_
        refine qG (!z43) (Bool.eq_false_iff.2 hg44) ?_
        refine q1 _ ?_
        refine qG (!z43) (Bool.eq_false_iff.2 hg44) ?_
        refine step (v := .d (.cptr none (.int .i64 x45) 0)) (bX (xs := r19.1) (e := (D.int .i64)) hx45 rfl rfl) ?_
        refine qG (!z43) (Bool.eq_false_iff.2 hg44) ?_
        refine q1 _ ?_
        refine qG (!z43) (Bool.eq_false_iff.2 hg44) ?_
        refine bM (r := .int .i64 r46) (aS (aS (aS ba.nil'))) (ip hr46) ?_
        refine qG (!z43) (Bool.eq_false_iff.2 hg44) ?_
        refine q1 _ ?_
        refine qG (!z43) (Bool.eq_false_iff.2 hg44) ?_
        refine q1 _ ?_
        refine step (v := vb (r46 != i23)) (bA (b := (!z43)) rfl hg44 rfl) ?_
        have hh := aE hv
        subst hh
        exact nR []
      by_cases hc49 : y47 = true
      ·
       replace h := bG hc49 h
       refine bh (t := y47) rfl hc49 ?_
       refine am ⟨tab [(4, vb false)], ae [], 0⟩ ?_ ?_
       ·
        refine q1 _ ?_
        exact nR []
       obtain ⟨r50, kr50, hr⟩ := eF (o := some false) (g := Br.ret) h
       subst hr
       have h := kr50
       have hh := aE h
       subst hh
       refine bE ?_
       refine And.intro (fun hn => nomatch hn) ?_
       intro hq
       have hq := hq.symm
       subst hq
       show FQ _ _ _ _
       exact bZ (.inr rfl) (bx (v := vb false) rfl rfl) (RV.d trivial)
      ·
       replace h := bH hc49 h
       refine bk (t := y47) rfl hc49 ?_
       refine bn ?_
       have hh := aE h
       subst hh
       refine bT ⟨tab [(2, aG a0), (5, vi (a0.Switches.length : Int)), (6, vi q6), (7, vi q7), (9, vi r9), (12, aF r19.1), (14, vi (i23 + 1))], ae [], 0⟩ ?_ ?_
       ·
        refine q1 _ ?_
        refine step (v := vi (i23 + 1)) (cH (cI hinv26 hgo25 hB24) rfl rfl) ?_
        refine q1 _ ?_
        exact nR []
       exact And.intro rfl rfl
     ·
      rintro i23 ⟨⟩ hinv26 hgo25
      show aH _ _ _ _ _ ⟨tab [(2, aG a0), (5, vi (a0.Switches.length : Int)), (6, vi q6), (7, vi q7), (9, vi r9), (12, aF r19.1), (14, vi i23)], ae [], 0⟩
      have hc27 : ¬ (decide (i23 < (r19.1.length : Int)) = true) := fun hq => hgo25 (of_decide_eq_true hq)
      refine aJ ?_
      refine am ⟨tab [(2, aG a0), (5, vi (a0.Switches.length : Int)), (6, vi q6), (7, vi q7), (9, vi r9), (12, aF r19.1), (14, vi i23), (117, vb (decide (i23 < (r19.1.length : Int))))], ae [], 0⟩ ?_ ?_
      ·
       iterate 2 refine q1 _ ?_
       refine step (v := vi (r19.1.length : Int)) (bN (xs := r19.1) (e := (D.int .i64)) rfl) ?_
       refine q1 _ ?_
       exact nR []
      refine bk (t := decide (i23 < (r19.1.length : Int))) rfl hc27 ?_
      refine bo (s0 := ⟨tab [(2, aG a0), (5, vi (a0.Switches.length : Int)), (6, vi q6), (7, vi q7), (9, vi r9)], ae [], 0⟩) (nr []) ?_
      refine ct ?_
      exact And.intro rfl rfl
     ·
      intro r' hq
      subst hq
      exact aE h
     rintro ⟨⟩ rfl
     obtain ⟨r51, hr51, h⟩ := az h
     refine am ⟨tab [(5, vi (a0.Switches.length : Int)), (6, vi q6), (7, vi q7), (9, vi r9), (18, aF r51)], ae [], 0⟩ ?_ ?_
     ·
      refine q1 _ ?_
      refine bM (r := eL none (D.int .i64) r51) (aS ba.nil') (u4 hr51) ?_
      refine q1 _ ?_
      exact nR []
     obtain ⟨y55, hv, h⟩ := az h
     refine am ⟨tab [(4, vb y55)], ae [], 0⟩ ?_ ?_
     ·
      refine q1 _ ?_
      refine step (v := vi (r51.length : Int)) (bN (xs := r51) (e := (D.int .i64)) rfl) ?_
      iterate 3 refine q1 _ ?_
      by_cases hg52 : ((r51.length : Int) == (a0.Switches.length : Int)) = true
      ·
       replace hv := bG hg52 hv
       obtain ⟨x53, hx53, hv⟩ := az hv
       obtain ⟨x54, hx54, hv⟩ := az hv
       refine qG _ hg52 ?_
       refine q1 _ ?_
       refine qG _ hg52 ?_
       refine q1 _ ?_
       refine qG _ hg52 ?_
       refine step (v := .d (.cptr none (.int .i64 x53) 0)) (bX (xs := r51) (e := (D.int .i64)) hx53 rfl rfl) ?_
       refine qG _ hg52 ?_
       refine q1 _ ?_
       refine qG _ hg52 ?_
       refine q1 _ ?_
       refine qG _ hg52 ?_
       refine q1 _ ?_
       refine qG _ hg52 ?_
       refine step (v := .d (.cptr none (.int .i64 x54) 0)) (bX (xs := r51) (e := (D.int .i64)) hx54 rfl rfl) ?_
       refine qG _ hg52 ?_
       refine q1 _ ?_
       refine qG _ hg52 ?_
       refine q1 _ ?_
       refine qG _ hg52 ?_
       refine q1 _ ?_
       refine qG _ hg52 ?_
       refine q1 _ ?_
       refine qG _ hg52 ?_
       refine q1 _ ?_
       refine step (v := vb ((x53 == x54) == (decide (r9 ≥ 0)))) (bF (b := ((r51.length : Int) == (a0.Switches.length : Int))) rfl hg52 rfl) ?_
       refine q1 _ ?_
       have hh := aE hv
       subst hh
       exact nR []
      ·
       replace hv := bH hg52 hv
       iterate 12 refine qX _ hg52 ?_
       refine step (v := vb false) (bA (b := ((r51.length : Int) == (a0.Switches.length : Int))) rfl hg52 rfl) ?_
       refine q1 _ ?_
       have hh := aE hv
       subst hh
       exact nR []
     have hh := aE h
     subst hh
     refine bE ?_
     show FQ _ _ _ _
     exact bZ (.inr rfl) (bx (v := vb y55) rfl rfl) (RV.d trivial)
end Go.AM
