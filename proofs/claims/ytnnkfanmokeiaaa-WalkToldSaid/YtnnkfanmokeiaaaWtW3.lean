import Derived.Test.YtnnkfanmokeiaaaWtW2
set_option linter.unusedVariables false
set_option linter.unusedSimpArgs false
namespace Go.AM
open Go Go.RowKit Go.Proofs
set_option maxRecDepth 10000
attribute [local irreducible] aZ cg
set_option maxHeartbeats 2000000
theorem Ak  {r : Bool} (h : nN  = some r) : PCall Try.prog 38 [] (.bool r) := by
 refine PCall.introN yX (show 0 ≤ 80 by decide) ?_
 refine bb (s0 := ⟨tab [], ac [], 0⟩) (nr []) ?_
 refine am ⟨tab [], ac [], 0⟩ ?_ ?_
 ·
  refine q1 _ ?_
  exact nR []
 refine am ⟨tab [(1, .ptr 0 0 0)], ac [(0, .var [ar ([1, 2] : List Int), ba ([(A2.mk (api_Port.mk 1 2) (api_Port.mk 2 2))] : List (A2 api_Port)), aL ([(api_Port.mk 1 1), (api_Port.mk 2 1)] : List api_Port)])], 1⟩ ?_ ?_
 ·
  refine q1 _ ?_
  refine step (v := dl (api_Port.mk 1 2)) (de (ds := [.int .u16 1, .int .u16 2]) rfl) ?_
  refine step (v := dl (api_Port.mk 2 2)) (de (ds := [.int .u16 2, .int .u16 2]) rfl) ?_
  refine step (v := .d (cX eapi_Port (A2.mk (api_Port.mk 1 2) (api_Port.mk 2 2)))) (de (ds := [.int .u16 1, .int .u16 2, .int .u16 2, .int .u16 2]) rfl) ?_
  refine q1 _ ?_
  refine step (v := dl (api_Port.mk 1 1)) (de (ds := [.int .u16 1, .int .u16 1]) rfl) ?_
  refine step (v := dl (api_Port.mk 2 1)) (de (ds := [.int .u16 2, .int .u16 1]) rfl) ?_
  refine q1 _ ?_
  refine step (v := eG (api_Topo.mk ([1, 2] : List Int) ([(A2.mk (api_Port.mk 1 2) (api_Port.mk 2 2))] : List (A2 api_Port)) ([(api_Port.mk 1 1), (api_Port.mk 2 1)] : List api_Port))) (de (ds := [eL none (D.int .u16) ([1, 2] : List Int), eL (some 4) (cX eapi_Port) ([(A2.mk (api_Port.mk 1 2) (api_Port.mk 2 2))] : List (A2 api_Port)), eL (some 2) eapi_Port ([(api_Port.mk 1 1), (api_Port.mk 2 1)] : List api_Port)]) rfl) ?_
  refine step (v := .ptr 0 0 0) (σ' := (al (ac []) 0 (some (.var [ar [], ba [], aL []])))) (n' := 1) rfl ?_
  refine step (v := V.undef) (σ' := (al (al (ac []) 0 (some (.var [ar [], ba [], aL []]))) 0 (some (.var [ar ([1, 2] : List Int), ba ([(A2.mk (api_Port.mk 1 2) (api_Port.mk 2 2))] : List (A2 api_Port)), aL ([(api_Port.mk 1 1), (api_Port.mk 2 1)] : List api_Port)])))) (n' := 1) rfl ?_
  exact nR [0]
 refine am ⟨tab [(1, .ptr 0 0 0), (2, .ptr 1 0 0)], ac [(0, .var [ar ([1, 2] : List Int), ba ([(A2.mk (api_Port.mk 1 2) (api_Port.mk 2 2))] : List (A2 api_Port)), aL ([(api_Port.mk 1 1), (api_Port.mk 2 1)] : List api_Port)]), (1, .var [vi 7, vi 0, vh 0, ax ([(ai.mk 6 0 0 ([(ai.mk 2 0 1 []), (ai.mk 5 1 2 [])] : List ai)), (ai.mk 6 0 0 ([(ai.mk 2 0 2 []), (ai.mk 5 1 1 [])] : List ai))] : List ai)])], 2⟩ ?_ ?_
 ·
  refine step (v := vs1 (ai.mk 2 0 1 [])) (de (ds := [.int .i64 2, .int .i64 0, .int .u16 1, eL (some 4) aN []]) rfl) ?_
  refine step (v := vs1 (ai.mk 5 1 2 [])) (de (ds := [.int .i64 5, .int .i64 1, .int .u16 2, eL (some 4) aN []]) rfl) ?_
  refine step (v := ax ([(ai.mk 2 0 1 []), (ai.mk 5 1 2 [])] : List ai)) (im rfl (by simp [eL, dX])) ?_
  refine step (v := vs1 (ai.mk 6 0 0 ([(ai.mk 2 0 1 []), (ai.mk 5 1 2 [])] : List ai))) (de (ds := [.int .i64 6, .int .i64 0, .int .u16 0, eL (some 4) aN ([(ai.mk 2 0 1 []), (ai.mk 5 1 2 [])] : List ai)]) rfl) ?_
  refine step (v := vs1 (ai.mk 2 0 2 [])) (de (ds := [.int .i64 2, .int .i64 0, .int .u16 2, eL (some 4) aN []]) rfl) ?_
  refine step (v := vs1 (ai.mk 5 1 1 [])) (de (ds := [.int .i64 5, .int .i64 1, .int .u16 1, eL (some 4) aN []]) rfl) ?_
  refine step (v := ax ([(ai.mk 2 0 2 []), (ai.mk 5 1 1 [])] : List ai)) (im rfl (by simp [eL, dX])) ?_
  refine step (v := vs1 (ai.mk 6 0 0 ([(ai.mk 2 0 2 []), (ai.mk 5 1 1 [])] : List ai))) (de (ds := [.int .i64 6, .int .i64 0, .int .u16 0, eL (some 4) aN ([(ai.mk 2 0 2 []), (ai.mk 5 1 1 [])] : List ai)]) rfl) ?_
  refine step (v := ax ([(ai.mk 6 0 0 ([(ai.mk 2 0 1 []), (ai.mk 5 1 2 [])] : List ai)), (ai.mk 6 0 0 ([(ai.mk 2 0 2 []), (ai.mk 5 1 1 [])] : List ai))] : List ai)) (im rfl (by simp [eL, dX])) ?_
  refine step (v := vs1 (ai.mk 7 0 0 ([(ai.mk 6 0 0 ([(ai.mk 2 0 1 []), (ai.mk 5 1 2 [])] : List ai)), (ai.mk 6 0 0 ([(ai.mk 2 0 2 []), (ai.mk 5 1 1 [])] : List ai))] : List ai))) (de (ds := [.int .i64 7, .int .i64 0, .int .u16 0, eL (some 4) aN ([(ai.mk 6 0 0 ([(ai.mk 2 0 1 []), (ai.mk 5 1 2 [])] : List ai)), (ai.mk 6 0 0 ([(ai.mk 2 0 2 []), (ai.mk 5 1 1 [])] : List ai))] : List ai)]) rfl) ?_
  refine step (v := .ptr 1 0 0) (σ' := (al (ac [(0, .var [ar ([1, 2] : List Int), ba ([(A2.mk (api_Port.mk 1 2) (api_Port.mk 2 2))] : List (A2 api_Port)), aL ([(api_Port.mk 1 1), (api_Port.mk 2 1)] : List api_Port)])]) 1 (some (bz)))) (n' := 2) rfl ?_
  refine step (v := V.undef) (σ' := (al (al (ac [(0, .var [ar ([1, 2] : List Int), ba ([(A2.mk (api_Port.mk 1 2) (api_Port.mk 2 2))] : List (A2 api_Port)), aL ([(api_Port.mk 1 1), (api_Port.mk 2 1)] : List api_Port)])]) 1 (some (bz))) 1 (some (.var [vi 7, vi 0, vh 0, ax ([(ai.mk 6 0 0 ([(ai.mk 2 0 1 []), (ai.mk 5 1 2 [])] : List ai)), (ai.mk 6 0 0 ([(ai.mk 2 0 2 []), (ai.mk 5 1 1 [])] : List ai))] : List ai)])))) (n' := 2) rfl ?_
  exact nR [0, 1]
 obtain ⟨r1, hr1, h⟩ := ay h
 refine am ⟨tab [(1, .ptr 0 0 0), (2, .ptr 1 0 0), (3, .d (eL none (eL (some 8) (eA8 (D.int .u16))) r1.1)), (4, vi r1.2)], ac [(0, .var [ar ([1, 2] : List Int), ba ([(A2.mk (api_Port.mk 1 2) (api_Port.mk 2 2))] : List (A2 api_Port)), aL ([(api_Port.mk 1 1), (api_Port.mk 2 1)] : List api_Port)]), (1, .var [vi 7, vi 0, vh 0, ax ([(ai.mk 6 0 0 ([(ai.mk 2 0 1 []), (ai.mk 5 1 2 [])] : List ai)), (ai.mk 6 0 0 ([(ai.mk 2 0 2 []), (ai.mk 5 1 1 [])] : List ai))] : List ai)])], 2⟩ ?_ ?_
 ·
  refine step (v := eG (api_Topo.mk ([1, 2] : List Int) ([(A2.mk (api_Port.mk 1 2) (api_Port.mk 2 2))] : List (A2 api_Port)) ([(api_Port.mk 1 1), (api_Port.mk 2 1)] : List api_Port))) (cb (ds := [eL none (D.int .u16) ([1, 2] : List Int), eL (some 4) (cX eapi_Port) ([(A2.mk (api_Port.mk 1 2) (api_Port.mk 2 2))] : List (A2 api_Port)), eL (some 2) eapi_Port ([(api_Port.mk 1 1), (api_Port.mk 2 1)] : List api_Port)]) rfl rfl (show 3 ≤ 3 by decide) rfl) ?_
  refine step (v := vs1 (ai.mk 7 0 0 ([(ai.mk 6 0 0 ([(ai.mk 2 0 1 []), (ai.mk 5 1 2 [])] : List ai)), (ai.mk 6 0 0 ([(ai.mk 2 0 2 []), (ai.mk 5 1 1 [])] : List ai))] : List ai))) (cb (ds := [.int .i64 7, .int .i64 0, .int .u16 0, eL (some 4) aN ([(ai.mk 6 0 0 ([(ai.mk 2 0 1 []), (ai.mk 5 1 2 [])] : List ai)), (ai.mk 6 0 0 ([(ai.mk 2 0 2 []), (ai.mk 5 1 1 [])] : List ai))] : List ai)]) rfl rfl (show 4 ≤ 4 by decide) rfl) ?_
  refine step (v := .d (eA8 (D.int .u16) (A8.mk 1 1 0 0 0 0 0 0))) (de (ds := [.int .u16 1, .int .u16 1, .int .u16 0, .int .u16 0, .int .u16 0, .int .u16 0, .int .u16 0, .int .u16 0]) rfl) ?_
  refine bC (r := .tup [eL none (eL (some 8) (eA8 (D.int .u16))) r1.1, .int .i64 r1.2]) (aF (aF (aQ.nl (aF aQ.nil')))) (sP hr1) ?_
  iterate 5 refine q1 _ ?_
  exact nR [0, 1]
 obtain ⟨y14, hv, h⟩ := ay h
 refine am ⟨tab [(0, vb y14)], ac [], 0⟩ ?_ ?_
 ·
  iterate 3 refine q1 _ ?_
  by_cases hg2 : (r1.2 == 0) = true
  ·
   replace hv := aO hg2 hv
   refine qG _ hg2 ?_
   refine q1 _ ?_
   refine qG _ hg2 ?_
   refine step (v := vi (r1.1.length : Int)) (bF (xs := r1.1) (e := (eL (some 8) (eA8 (D.int .u16)))) rfl) ?_
   refine qG _ hg2 ?_
   refine q1 _ ?_
   refine step (v := vb ((r1.1.length : Int) == 1)) (bw (b := (r1.2 == 0)) rfl hg2 rfl) ?_
   refine q1 _ ?_
   by_cases hg3 : ((r1.1.length : Int) == 1) = true
   ·
    replace hv := aO hg3 hv
    obtain ⟨x4, hx4, hv⟩ := ay hv
    refine qG _ hg3 ?_
    refine q1 _ ?_
    refine qG _ hg3 ?_
    refine step (v := .d (.cptr none (eL (some 8) (eA8 (D.int .u16)) x4) 0)) (cl (xs := r1.1) (e := (eL (some 8) (eA8 (D.int .u16)))) hx4 rfl rfl) ?_
    refine qG _ hg3 ?_
    refine q1 _ ?_
    refine qG _ hg3 ?_
    refine step (v := vi (x4.length : Int)) (bF (xs := x4) (e := (eA8 (D.int .u16))) rfl) ?_
    refine qG _ hg3 ?_
    refine q1 _ ?_
    refine step (v := vb ((x4.length : Int) == 4)) (bw (b := ((r1.1.length : Int) == 1)) rfl hg3 rfl) ?_
    refine q1 _ ?_
    by_cases hg5 : ((x4.length : Int) == 4) = true
    ·
     replace hv := aO hg5 hv
     obtain ⟨x6, hx6, hv⟩ := ay hv
     refine qG _ hg5 ?_
     refine q1 _ ?_
     refine qG _ hg5 ?_
     refine step (v := .d (.cptr none (eL (some 8) (eA8 (D.int .u16)) x4) 0)) (cl (xs := r1.1) (e := (eL (some 8) (eA8 (D.int .u16)))) hx4 rfl rfl) ?_
     refine qG _ hg5 ?_
     refine q1 _ ?_
     refine qG _ hg5 ?_
     refine step (v := .d (.cptr (some 8) (eA8 (D.int .u16) x6) 0)) (cl (xs := x4) (e := (eA8 (D.int .u16))) hx6 rfl rfl) ?_
     refine qG _ hg5 ?_
     refine q1 _ ?_
     refine qG _ hg5 ?_
     refine step (v := .d (eA8 (D.int .u16) (A8.mk 2 1 0 0 0 0 0 0))) (de (ds := [.int .u16 2, .int .u16 1, .int .u16 0, .int .u16 0, .int .u16 0, .int .u16 0, .int .u16 0, .int .u16 0]) rfl) ?_
     refine qG _ hg5 ?_
     refine step (v := vb (x6 == (A8.mk 2 1 0 0 0 0 0 0))) (f4 (neg := false) rfl rfl (ju x6 (A8.mk 2 1 0 0 0 0 0 0))) ?_
     refine step (v := vb (x6 == (A8.mk 2 1 0 0 0 0 0 0))) (bw (b := ((x4.length : Int) == 4)) rfl hg5 rfl) ?_
     refine q1 _ ?_
     by_cases hg7 : (x6 == (A8.mk 2 1 0 0 0 0 0 0)) = true
     ·
      replace hv := aO hg7 hv
      obtain ⟨r8, hr8, hv⟩ := ay hv
      refine qG _ hg7 ?_
      refine step (v := eG (api_Topo.mk ([1, 2] : List Int) ([(A2.mk (api_Port.mk 1 2) (api_Port.mk 2 2))] : List (A2 api_Port)) ([(api_Port.mk 1 1), (api_Port.mk 2 1)] : List api_Port))) (cb (ds := [eL none (D.int .u16) ([1, 2] : List Int), eL (some 4) (cX eapi_Port) ([(A2.mk (api_Port.mk 1 2) (api_Port.mk 2 2))] : List (A2 api_Port)), eL (some 2) eapi_Port ([(api_Port.mk 1 1), (api_Port.mk 2 1)] : List api_Port)]) rfl rfl (show 3 ≤ 3 by decide) rfl) ?_
      refine qG _ hg7 ?_
      refine step (v := vs1 (ai.mk 7 0 0 ([(ai.mk 6 0 0 ([(ai.mk 2 0 1 []), (ai.mk 5 1 2 [])] : List ai)), (ai.mk 6 0 0 ([(ai.mk 2 0 2 []), (ai.mk 5 1 1 [])] : List ai))] : List ai))) (cb (ds := [.int .i64 7, .int .i64 0, .int .u16 0, eL (some 4) aN ([(ai.mk 6 0 0 ([(ai.mk 2 0 1 []), (ai.mk 5 1 2 [])] : List ai)), (ai.mk 6 0 0 ([(ai.mk 2 0 2 []), (ai.mk 5 1 1 [])] : List ai))] : List ai)]) rfl rfl (show 4 ≤ 4 by decide) rfl) ?_
      refine qG _ hg7 ?_
      refine q1 _ ?_
      refine qG _ hg7 ?_
      refine step (v := .d (.cptr none (eL (some 8) (eA8 (D.int .u16)) x4) 0)) (cl (xs := r1.1) (e := (eL (some 8) (eA8 (D.int .u16)))) hx4 rfl rfl) ?_
      refine qG _ hg7 ?_
      refine q1 _ ?_
      refine qG _ hg7 ?_
      refine bC (r := .bool r8) (aF (aF (aQ.nl (aF aQ.nil')))) (oK hr8) ?_
      refine step (v := vb r8) (bw (b := (x6 == (A8.mk 2 1 0 0 0 0 0 0))) rfl hg7 rfl) ?_
      refine q1 _ ?_
      by_cases hg9 : r8 = true
      ·
       replace hv := aO hg9 hv
       obtain ⟨r10, hr10, hv⟩ := ay hv
       refine qG _ hg9 ?_
       refine step (v := eG (api_Topo.mk ([1, 2] : List Int) ([(A2.mk (api_Port.mk 1 2) (api_Port.mk 2 2))] : List (A2 api_Port)) ([(api_Port.mk 1 1), (api_Port.mk 2 1)] : List api_Port))) (cb (ds := [eL none (D.int .u16) ([1, 2] : List Int), eL (some 4) (cX eapi_Port) ([(A2.mk (api_Port.mk 1 2) (api_Port.mk 2 2))] : List (A2 api_Port)), eL (some 2) eapi_Port ([(api_Port.mk 1 1), (api_Port.mk 2 1)] : List api_Port)]) rfl rfl (show 3 ≤ 3 by decide) rfl) ?_
       refine qG _ hg9 ?_
       refine step (v := vs1 (ai.mk 7 0 0 ([(ai.mk 6 0 0 ([(ai.mk 2 0 1 []), (ai.mk 5 1 2 [])] : List ai)), (ai.mk 6 0 0 ([(ai.mk 2 0 2 []), (ai.mk 5 1 1 [])] : List ai))] : List ai))) (cb (ds := [.int .i64 7, .int .i64 0, .int .u16 0, eL (some 4) aN ([(ai.mk 6 0 0 ([(ai.mk 2 0 1 []), (ai.mk 5 1 2 [])] : List ai)), (ai.mk 6 0 0 ([(ai.mk 2 0 2 []), (ai.mk 5 1 1 [])] : List ai))] : List ai)]) rfl rfl (show 4 ≤ 4 by decide) rfl) ?_
       refine qG _ hg9 ?_
       refine q1 _ ?_
       refine qG _ hg9 ?_
       refine step (v := .d (.cptr none (eL (some 8) (eA8 (D.int .u16)) x4) 0)) (cl (xs := r1.1) (e := (eL (some 8) (eA8 (D.int .u16)))) hx4 rfl rfl) ?_
       refine qG _ hg9 ?_
       refine q1 _ ?_
       refine qG _ hg9 ?_
       refine bC (r := .bool r10) (aF (aF (aQ.nl (aF aQ.nil')))) (oL hr10) ?_
       refine step (v := vb r10) (bw (b := r8) rfl hg9 rfl) ?_
       refine q1 _ ?_
       by_cases hg11 : r10 = true
       ·
        replace hv := aO hg11 hv
        obtain ⟨l12, hl12, hv⟩ := ay hv
        obtain ⟨r13, hr13, hv⟩ := ay hv
        refine qG _ hg11 ?_
        refine step (v := eG (api_Topo.mk ([1, 2] : List Int) ([(A2.mk (api_Port.mk 1 2) (api_Port.mk 2 2))] : List (A2 api_Port)) ([(api_Port.mk 1 1), (api_Port.mk 2 1)] : List api_Port))) (cb (ds := [eL none (D.int .u16) ([1, 2] : List Int), eL (some 4) (cX eapi_Port) ([(A2.mk (api_Port.mk 1 2) (api_Port.mk 2 2))] : List (A2 api_Port)), eL (some 2) eapi_Port ([(api_Port.mk 1 1), (api_Port.mk 2 1)] : List api_Port)]) rfl rfl (show 3 ≤ 3 by decide) rfl) ?_
        refine qG _ hg11 ?_
        refine step (v := vs1 (ai.mk 7 0 0 ([(ai.mk 6 0 0 ([(ai.mk 2 0 1 []), (ai.mk 5 1 2 [])] : List ai)), (ai.mk 6 0 0 ([(ai.mk 2 0 2 []), (ai.mk 5 1 1 [])] : List ai))] : List ai))) (cb (ds := [.int .i64 7, .int .i64 0, .int .u16 0, eL (some 4) aN ([(ai.mk 6 0 0 ([(ai.mk 2 0 1 []), (ai.mk 5 1 2 [])] : List ai)), (ai.mk 6 0 0 ([(ai.mk 2 0 2 []), (ai.mk 5 1 1 [])] : List ai))] : List ai)]) rfl rfl (show 4 ≤ 4 by decide) rfl) ?_
        refine qG _ hg11 ?_
        refine q1 _ ?_
        refine qG _ hg11 ?_
        refine step (v := .d (.cptr none (eL (some 8) (eA8 (D.int .u16)) x4) 0)) (cl (xs := r1.1) (e := (eL (some 8) (eA8 (D.int .u16)))) hx4 rfl rfl) ?_
        refine qG _ hg11 ?_
        refine q1 _ ?_
        refine qG _ hg11 ?_
        refine step (v := .d (eL (some 8) (eA8 (D.int .u16)) l12)) (qz (xs := x4) (e := (eA8 (D.int .u16))) hl12 rfl rfl ⟨_, rfl⟩) ?_
        refine qG _ hg11 ?_
        refine bC (r := .bool r13) (aF (aF (aQ.nl (aF aQ.nil')))) (oL hr13) ?_
        refine qG _ hg11 ?_
        refine q1 _ ?_
        refine step (v := vb (!r13)) (bw (b := r10) rfl hg11 rfl) ?_
        refine q1 _ ?_
        have hh := aq hv
        subst hh
        exact nR []
       ·
        replace hv := aP hg11 hv
        iterate 8 refine qX _ hg11 ?_
        refine step (v := vb false) (bp (b := r10) rfl hg11 rfl) ?_
        refine q1 _ ?_
        have hh := aq hv
        subst hh
        exact nR []
      ·
       replace hv := aP hg9 hv
       iterate 6 refine qX _ hg9 ?_
       refine step (v := vb false) (bp (b := r8) rfl hg9 rfl) ?_
       refine q1 _ ?_
       iterate 8 refine qX false (by decide) ?_
       refine step (v := vb false) (bp (b := false) rfl (by decide) rfl) ?_
       refine q1 _ ?_
       have hh := aq hv
       subst hh
       exact nR []
     ·
      replace hv := aP hg7 hv
      iterate 6 refine qX _ hg7 ?_
      refine step (v := vb false) (bp (b := (x6 == (A8.mk 2 1 0 0 0 0 0 0))) rfl hg7 rfl) ?_
      refine q1 _ ?_
      iterate 6 refine qX false (by decide) ?_
      refine step (v := vb false) (bp (b := false) rfl (by decide) rfl) ?_
      refine q1 _ ?_
      iterate 8 refine qX false (by decide) ?_
      refine step (v := vb false) (bp (b := false) rfl (by decide) rfl) ?_
      refine q1 _ ?_
      have hh := aq hv
      subst hh
      exact nR []
    ·
     replace hv := aP hg5 hv
     iterate 7 refine qX _ hg5 ?_
     refine step (v := vb false) (bp (b := ((x4.length : Int) == 4)) rfl hg5 rfl) ?_
     refine q1 _ ?_
     iterate 6 refine qX false (by decide) ?_
     refine step (v := vb false) (bp (b := false) rfl (by decide) rfl) ?_
     refine q1 _ ?_
     iterate 6 refine qX false (by decide) ?_
     refine step (v := vb false) (bp (b := false) rfl (by decide) rfl) ?_
     refine q1 _ ?_
     iterate 8 refine qX false (by decide) ?_
     refine step (v := vb false) (bp (b := false) rfl (by decide) rfl) ?_
     refine q1 _ ?_
     have hh := aq hv
     subst hh
     exact nR []
   ·
    replace hv := aP hg3 hv
    iterate 5 refine qX _ hg3 ?_
    refine step (v := vb false) (bp (b := ((r1.1.length : Int) == 1)) rfl hg3 rfl) ?_
    refine q1 _ ?_
    iterate 7 refine qX false (by decide) ?_
    refine step (v := vb false) (bp (b := false) rfl (by decide) rfl) ?_
    refine q1 _ ?_
    iterate 6 refine qX false (by decide) ?_
    refine step (v := vb false) (bp (b := false) rfl (by decide) rfl) ?_
    refine q1 _ ?_
    iterate 6 refine qX false (by decide) ?_
    refine step (v := vb false) (bp (b := false) rfl (by decide) rfl) ?_
    refine q1 _ ?_
    iterate 8 refine qX false (by decide) ?_
    refine step (v := vb false) (bp (b := false) rfl (by decide) rfl) ?_
    refine q1 _ ?_
    have hh := aq hv
    subst hh
    exact nR []
  ·
   replace hv := aP hg2 hv
   iterate 3 refine qX _ hg2 ?_
   refine step (v := vb false) (bp (b := (r1.2 == 0)) rfl hg2 rfl) ?_
   refine q1 _ ?_
   iterate 5 refine qX false (by decide) ?_
   refine step (v := vb false) (bp (b := false) rfl (by decide) rfl) ?_
   refine q1 _ ?_
   iterate 7 refine qX false (by decide) ?_
   refine step (v := vb false) (bp (b := false) rfl (by decide) rfl) ?_
   refine q1 _ ?_
   iterate 6 refine qX false (by decide) ?_
   refine step (v := vb false) (bp (b := false) rfl (by decide) rfl) ?_
   refine q1 _ ?_
   iterate 6 refine qX false (by decide) ?_
   refine step (v := vb false) (bp (b := false) rfl (by decide) rfl) ?_
   refine q1 _ ?_
   iterate 8 refine qX false (by decide) ?_
   refine step (v := vb false) (bp (b := false) rfl (by decide) rfl) ?_
   refine q1 _ ?_
   have hh := aq hv
   subst hh
   exact nR []
 have hh := aq h
 subst hh
 refine aV ?_
 show FQ _ _ _ _
 exact br (.inr rfl) (bg (v := vb y14) rfl rfl) (RV.d trivial)
theorem sQ {a0 : api_Topo} {a1 : Int} {r : Int} (h : gf a0 a1 = some r) : PCall Try.prog 65 [eapi_Topo a0, .int .u16 a1] (.int .i64 r) := by
 refine PCall.introN za (show 2 ≤ 21 by decide) ?_
 refine bb (s0 := ⟨tab [(0, eG a0), (1, vh a1)], ac [], 0⟩) (nr []) ?_
 refine am ⟨tab [(1, vh a1), (2, bx a0)], ac [], 0⟩ ?_ ?_
 ·
  iterate 2 refine q1 _ ?_
  exact nR []
 refine aG ?_
 refine am ⟨tab [(1, vh a1), (2, bx a0), (5, vi 0)], ac [], 0⟩ ?_ ?_
 ·
  refine q1 _ ?_
  exact nR []
 obtain ⟨q9, hl, h⟩ := ay h
 refine bG ?_
 refine dp (cQ (a0.Switches.length : Int)) (fun (i1 : Int) (qq : Unit) => ⟨tab [(1, vh a1), (2, bx a0), (5, vi i1)], ac [], 0⟩) 0 (fun (qq : Unit) => ⟨tab [], ac [], 0⟩) bK cR (r := r) hl (by unfold bK; omega) ?_ ?_ ?_ ?_
 ·
  rintro i1 ⟨⟩ xr6 hinv4 hgo3 h
  show aI _ _ _ _ _ ⟨tab [(1, vh a1), (2, bx a0), (5, vi i1)], ac [], 0⟩
  have hc5 : decide (i1 < (a0.Switches.length : Int)) = true := decide_eq_true hgo3
  refine aG ?_
  refine am ⟨tab [(1, vh a1), (2, bx a0), (5, vi i1), (9, vi (a0.Switches.length : Int)), (10, vb (decide (i1 < (a0.Switches.length : Int))))], ac [], 0⟩ ?_ ?_
  ·
   iterate 3 refine q1 _ ?_
   refine step (v := vi (a0.Switches.length : Int)) (bF (xs := a0.Switches) (e := (D.int .u16)) rfl) ?_
   refine q1 _ ?_
   exact nR []
  refine c8 9 rfl fun hB2 => ?_
  refine aY (t := decide (i1 < (a0.Switches.length : Int))) rfl hc5 ?_
  refine bh ?_
  refine aG ?_
  refine bG ?_
  obtain ⟨x7, hx7, h⟩ := ay h
  refine am ⟨tab [(1, vh a1), (2, bx a0), (5, vi i1), (19, vb (x7 == a1))], ac [], 0⟩ ?_ ?_
  ·
   iterate 3 refine q1 _ ?_
   refine step (v := .d (.cptr none (.int .u16 x7) 0)) (cl (xs := a0.Switches) (e := (D.int .u16)) hx7 rfl rfl) ?_
   iterate 3 refine q1 _ ?_
   exact nR []
  by_cases hc8 : (x7 == a1) = true
  ·
   replace h := aO hc8 h
   refine aY (t := (x7 == a1)) rfl hc8 ?_
   refine am ⟨tab [(4, vi i1)], ac [], 0⟩ ?_ ?_
   ·
    iterate 2 refine q1 _ ?_
    exact nR []
   obtain ⟨r9, kr9, hr⟩ := cq (o := some i1) (g := Br.ret) h
   subst hr
   have h := kr9
   have hh := aq h
   subst hh
   refine aV ?_
   refine And.intro (fun hn => nomatch hn) ?_
   intro hq
   have hq := hq.symm
   subst hq
   show FQ _ _ _ _
   exact br (.inr rfl) (bg (v := vi i1) rfl rfl) (RV.d trivial)
  ·
   replace h := aP hc8 h
   refine aW (t := (x7 == a1)) rfl hc8 ?_
   refine bh ?_
   have hh := aq h
   subst hh
   refine bU ⟨tab [(1, vh a1), (2, bx a0), (5, vi (i1 + 1))], ac [], 0⟩ ?_ ?_
   ·
    refine q1 _ ?_
    refine step (v := vi (i1 + 1)) (cL (cM hinv4 hgo3 hB2) rfl rfl) ?_
    refine q1 _ ?_
    exact nR []
   exact And.intro rfl rfl
 ·
  rintro i1 ⟨⟩ hinv4 hgo3
  show aI _ _ _ _ _ ⟨tab [(1, vh a1), (2, bx a0), (5, vi i1)], ac [], 0⟩
  have hc5 : ¬ (decide (i1 < (a0.Switches.length : Int)) = true) := fun hq => hgo3 (of_decide_eq_true hq)
  refine aG ?_
  refine am ⟨tab [(1, vh a1), (2, bx a0), (5, vi i1), (10, vb (decide (i1 < (a0.Switches.length : Int))))], ac [], 0⟩ ?_ ?_
  ·
   iterate 3 refine q1 _ ?_
   refine step (v := vi (a0.Switches.length : Int)) (bF (xs := a0.Switches) (e := (D.int .u16)) rfl) ?_
   refine q1 _ ?_
   exact nR []
  refine aW (t := decide (i1 < (a0.Switches.length : Int))) rfl hc5 ?_
  refine bb (s0 := ⟨tab [], ac [], 0⟩) (nr []) ?_
  refine cI ?_
  exact And.intro rfl rfl
 ·
  intro r' hq
  subst hq
  exact aq h
 rintro ⟨⟩ rfl
 refine am ⟨tab [(4, vi (-1))], ac [], 0⟩ ?_ ?_
 ·
  refine q1 _ ?_
  exact nR []
 have hh := aq h
 subst hh
 refine aV ?_
 show FQ _ _ _ _
 exact br (.inr rfl) (bg (v := vi (-1)) rfl rfl) (RV.d trivial)
theorem Al {a0 : api_Topo} {r : (List api_Port)} (h : lI a0 = some r) : PCall Try.prog 66 [eapi_Topo a0] (eL (some 2) eapi_Port r) := by
 refine PCall.introN ze (show 1 ≤ 31 by decide) ?_
 refine bb (s0 := ⟨tab [(0, eG a0)], ac [], 0⟩) (nr []) ?_
 refine am ⟨tab [(1, bx a0)], ac [], 0⟩ ?_ ?_
 ·
  iterate 2 refine q1 _ ?_
  exact nR []
 refine am ⟨tab [(1, bx a0), (3, .d (.nils))], ac [], 0⟩ ?_ ?_
 ·
  refine q1 _ ?_
  exact nR []
 refine aG ?_
 refine am ⟨tab [(1, bx a0), (3, .d (.nils)), (4, vi 0)], ac [], 0⟩ ?_ ?_
 ·
  refine q1 _ ?_
  exact nR []
 obtain ⟨z10, hl, h⟩ := ay h
 refine bb (s0 := ⟨tab [(1, bx a0), (3, .loc 0 0 (([] : List api_Port).length)), (4, vi 0)], ac [(0, .lst false (some 2) (List.map eapi_Port ([] : List api_Port)))], 1⟩) (bO.trans (s2 := ⟨tab [(1, bx a0), (3, .loc 0 0 (([] : List api_Port).length)), (4, vi 0)], ac [(0, .lst false (some 2) (List.map eapi_Port ([] : List api_Port)))], 1⟩) (jX 3 false (some 2) rfl) (nr [0])) ?_
 refine bG ?_
 refine jU (cQ (a0.Links.length : Int)) (fun (i2 : Int) (qq : (List api_Port)) => ⟨tab [(1, bx a0), (3, .loc 0 0 qq.length), (4, vi i2)], ac [(0, .lst false (some 2) (List.map eapi_Port qq))], 1⟩) 0 (fun (qq : (List api_Port)) => ⟨tab [(1, bx a0), (3, .loc 0 0 qq.length)], ac [(0, .lst false (some 2) (List.map eapi_Port qq))], 1⟩) bK cR hl (by unfold bK; omega) ?_ ?_ ?_
 ·
  rintro i2 l1 xr7 hinv5 hgo4 h
  show aI _ _ _ _ _ ⟨tab [(1, bx a0), (3, .loc 0 0 l1.length), (4, vi i2)], ac [(0, .lst false (some 2) (List.map eapi_Port l1))], 1⟩
  have hc6 : decide (i2 < (a0.Links.length : Int)) = true := decide_eq_true hgo4
  refine aG ?_
  refine am ⟨tab [(1, bx a0), (3, .loc 0 0 l1.length), (4, vi i2), (8, vi (a0.Links.length : Int)), (9, vb (decide (i2 < (a0.Links.length : Int))))], ac [(0, .lst false (some 2) (List.map eapi_Port l1))], 1⟩ ?_ ?_
  ·
   iterate 3 refine q1 _ ?_
   refine step (v := vi (a0.Links.length : Int)) (bF (xs := a0.Links) (e := (cX eapi_Port)) rfl) ?_
   refine q1 _ ?_
   exact nR [0]
  refine c8 8 rfl fun hB3 => ?_
  refine aY (t := decide (i2 < (a0.Links.length : Int))) rfl hc6 ?_
  refine bh ?_
  refine aG ?_
  refine bG ?_
  obtain ⟨x8, hx8, h⟩ := ay h
  obtain ⟨l9, hl9, h⟩ := ay h
  refine lY ⟨tab [(1, bx a0), (3, .loc 0 0 l9.length), (4, vi i2)], ac [(0, .lst false (some 2) (List.map eapi_Port l9))], 1⟩ ?_ ?_
  ·
   refine b9 [] [] (v := .loc 0 0 l1.length) rfl rfl rfl ?_
   refine b9 [] [] (v := .d (.cptr (some 3) (eapi_Topo a0) 1)) rfl rfl rfl ?_
   refine b9 [] [] (v := ba a0.Links) rfl rfl rfl ?_
   refine b9 [] [] (v := vi i2) rfl rfl rfl ?_
   refine b9 [] [] (v := .d (.cptr (some 4) (cX eapi_Port x8) 0)) (cl (xs := a0.Links) (e := (cX eapi_Port)) hx8 rfl rfl) rfl rfl ?_
   refine b9 [] [] (v := .d (.cptr (some 4) (cX eapi_Port x8) 0)) rfl rfl rfl ?_
   refine b9 [] [] (v := dl x8.a0) rfl rfl rfl ?_
   refine b9 [] [] (v := .d (.cptr (some 3) (eapi_Topo a0) 1)) rfl rfl rfl ?_
   refine b9 [] [] (v := ba a0.Links) rfl rfl rfl ?_
   refine b9 [] [] (v := vi i2) rfl rfl rfl ?_
   refine b9 [] [] (v := .d (.cptr (some 4) (cX eapi_Port x8) 0)) (cl (xs := a0.Links) (e := (cX eapi_Port)) hx8 rfl rfl) rfl rfl ?_
   refine b9 [] [] (v := .d (.cptr (some 4) (cX eapi_Port x8) 2)) rfl rfl rfl ?_
   refine b9 [] [] (v := dl x8.a1) rfl rfl rfl ?_
   refine b9 [] [] (v := aL ([x8.a0, x8.a1] : List api_Port)) rfl rfl rfl ?_
   refine b9 [0] [0] (v := .loc 1 0 l9.length) (σ' := (al (al (ac [(0, .lst false (some 2) (List.map eapi_Port l1))]) 0 none) 1 (some (.lst false (some 2) (List.map eapi_Port l9))))) (n' := 2) (eP (xs := l1) (ys := ([x8.a0, x8.a1] : List api_Port)) (e := eapi_Port) hl9 rfl rfl rfl (fc (xs := ([x8.a0, x8.a1] : List api_Port)) (e := eapi_Port) rfl)) rfl rfl ?_
   refine b9 [] [] (v := .loc 1 0 l9.length) rfl rfl rfl ?_
   exact cg.nil' ⟨by decide, nr [1]⟩
  have hh := aq h
  subst hh
  refine bU ⟨tab [(1, bx a0), (3, .loc 0 0 l9.length), (4, vi (i2 + 1))], ac [(0, .lst false (some 2) (List.map eapi_Port l9))], 1⟩ ?_ ?_
  ·
   refine q1 _ ?_
   refine step (v := vi (i2 + 1)) (cL (cM hinv5 hgo4 hB3) rfl rfl) ?_
   refine q1 _ ?_
   exact nR [0]
  exact And.intro rfl rfl
 ·
  rintro i2 l1 hinv5 hgo4
  show aI _ _ _ _ _ ⟨tab [(1, bx a0), (3, .loc 0 0 l1.length), (4, vi i2)], ac [(0, .lst false (some 2) (List.map eapi_Port l1))], 1⟩
  have hc6 : ¬ (decide (i2 < (a0.Links.length : Int)) = true) := fun hq => hgo4 (of_decide_eq_true hq)
  refine aG ?_
  refine am ⟨tab [(1, bx a0), (3, .loc 0 0 l1.length), (4, vi i2), (9, vb (decide (i2 < (a0.Links.length : Int))))], ac [(0, .lst false (some 2) (List.map eapi_Port l1))], 1⟩ ?_ ?_
  ·
   iterate 3 refine q1 _ ?_
   refine step (v := vi (a0.Links.length : Int)) (bF (xs := a0.Links) (e := (cX eapi_Port)) rfl) ?_
   refine q1 _ ?_
   exact nR [0]
  refine aW (t := decide (i2 < (a0.Links.length : Int))) rfl hc6 ?_
  refine bb (s0 := ⟨tab [(1, bx a0), (3, .loc 0 0 l1.length)], ac [(0, .lst false (some 2) (List.map eapi_Port l1))], 1⟩) (nr [0]) ?_
  refine cI ?_
  exact And.intro rfl rfl
 obtain ⟨l11, hl11, h⟩ := ay h
 refine am ⟨tab [(2, .loc 0 0 l11.length)], ac [(0, .lst false (some 2) (List.map eapi_Port l11))], 1⟩ ?_ ?_
 ·
  iterate 3 refine q1 _ ?_
  refine step (v := .loc 1 0 l11.length) (σ' := (al (al (ac [(0, .lst false (some 2) (List.map eapi_Port z10))]) 0 none) 1 (some (.lst false (some 2) (List.map eapi_Port l11))))) (n' := 2) (eP (xs := z10) (ys := a0.Hosts) (e := eapi_Port) hl11 rfl rfl rfl (fc (xs := a0.Hosts) (e := eapi_Port) rfl)) ?_
  refine q1 _ ?_
  exact nR [1]
 have hh := aq h
 subst hh
 refine aV ?_
 show FQ _ _ _ _
 exact br (.inr rfl) (bg (v := .loc 0 0 l11.length) rfl rfl) (RV.loc (xs := l11) (e := eapi_Port) rfl rfl trivial)
theorem Am {a0 : api_Topo} {r : Int} (h : lJ a0 = some r) : PCall Try.prog 35 [eapi_Topo a0] (.int .i64 r) := by
 refine PCall.introN zl (show 1 ≤ 76 by decide) ?_
 refine bb (s0 := ⟨tab [(0, eG a0)], ac [], 0⟩) (nr []) ?_
 refine am ⟨tab [(1, bx a0)], ac [], 0⟩ ?_ ?_
 ·
  iterate 2 refine q1 _ ?_
  exact nR []
 refine aG ?_
 refine am ⟨tab [(1, bx a0), (23, vb ((decide ((a0.Switches.length : Int) > 12)) || ((decide ((a0.Links.length : Int) > 24)) || (decide ((a0.Hosts.length : Int) > 24)))))], ac [], 0⟩ ?_ ?_
 ·
  iterate 2 refine q1 _ ?_
  refine step (v := vi (a0.Switches.length : Int)) (bF (xs := a0.Switches) (e := (D.int .u16)) rfl) ?_
  iterate 2 refine q1 _ ?_
  by_cases hg1 : decide ((a0.Switches.length : Int) > 12) = true
  ·
   iterate 4 refine qX (decide ((a0.Switches.length : Int) > 12)) (by rw [hg1]; decide) ?_
   refine step (v := vb true) (bw (b := decide ((a0.Switches.length : Int) > 12)) rfl hg1 rfl) ?_
   refine q1 _ ?_
   iterate 4 refine qX true (by decide) ?_
   refine step (v := vb true) (bw (b := true) rfl rfl rfl) ?_
   exact aZ.nil' (nm [] ⟨.d _, .eq (by first | (simp [hg1]; done) | (simp_all; done) | grind), trivial⟩ trivial)
  ·
   refine qG (decide ((a0.Switches.length : Int) > 12)) (Bool.eq_false_iff.2 hg1) ?_
   refine q1 _ ?_
   refine qG (decide ((a0.Switches.length : Int) > 12)) (Bool.eq_false_iff.2 hg1) ?_
   refine q1 _ ?_
   refine qG (decide ((a0.Switches.length : Int) > 12)) (Bool.eq_false_iff.2 hg1) ?_
   refine step (v := vi (a0.Links.length : Int)) (bF (xs := a0.Links) (e := (cX eapi_Port)) rfl) ?_
   refine qG (decide ((a0.Switches.length : Int) > 12)) (Bool.eq_false_iff.2 hg1) ?_
   refine q1 _ ?_
   refine step (v := vb (decide ((a0.Links.length : Int) > 24))) (bp (b := decide ((a0.Switches.length : Int) > 12)) rfl hg1 rfl) ?_
   refine q1 _ ?_
   by_cases hg2 : decide ((a0.Links.length : Int) > 24) = true
   ·
    iterate 4 refine qX (decide ((a0.Links.length : Int) > 24)) (by rw [hg2]; decide) ?_
    refine step (v := vb true) (bw (b := decide ((a0.Links.length : Int) > 24)) rfl hg2 rfl) ?_
    exact aZ.nil' (nm [] ⟨.d _, .eq (by first | (simp [hg1, hg2]; done) | (simp_all; done) | grind), trivial⟩ trivial)
   ·
    refine qG (decide ((a0.Links.length : Int) > 24)) (Bool.eq_false_iff.2 hg2) ?_
    refine q1 _ ?_
    refine qG (decide ((a0.Links.length : Int) > 24)) (Bool.eq_false_iff.2 hg2) ?_
    refine q1 _ ?_
    refine qG (decide ((a0.Links.length : Int) > 24)) (Bool.eq_false_iff.2 hg2) ?_
    refine step (v := vi (a0.Hosts.length : Int)) (bF (xs := a0.Hosts) (e := eapi_Port) rfl) ?_
    refine qG (decide ((a0.Links.length : Int) > 24)) (Bool.eq_false_iff.2 hg2) ?_
    refine q1 _ ?_
    refine step (v := vb (decide ((a0.Hosts.length : Int) > 24))) (bp (b := decide ((a0.Links.length : Int) > 24)) rfl hg2 rfl) ?_
    exact aZ.nil' (nm [] ⟨.d _, .eq (by first | (simp [hg1, hg2]; done) | (simp_all; done) | grind), trivial⟩ trivial)
 by_cases hc3 : ((decide ((a0.Switches.length : Int) > 12)) || ((decide ((a0.Links.length : Int) > 24)) || (decide ((a0.Hosts.length : Int) > 24)))) = true
 ·
  replace h := aO hc3 h
  refine aY (t := ((decide ((a0.Switches.length : Int) > 12)) || ((decide ((a0.Links.length : Int) > 24)) || (decide ((a0.Hosts.length : Int) > 24))))) rfl hc3 ?_
  refine am ⟨tab [(2, vi 2)], ac [], 0⟩ ?_ ?_
  ·
   refine q1 _ ?_
   exact nR []
  have hh := aq h
  subst hh
  refine aV ?_
  show FQ _ _ _ _
  exact br (.inr rfl) (bg (v := vi 2) rfl rfl) (RV.d trivial)
 ·
  replace h := aP hc3 h
  refine aW (t := ((decide ((a0.Switches.length : Int) > 12)) || ((decide ((a0.Links.length : Int) > 24)) || (decide ((a0.Hosts.length : Int) > 24))))) rfl hc3 ?_
  refine bh ?_
  refine aG ?_
  refine am ⟨tab [(1, bx a0), (3, vi 0)], ac [], 0⟩ ?_ ?_
  ·
   refine q1 _ ?_
   exact nR []
  obtain ⟨q41, hl, h⟩ := ay h
  refine bG ?_
  refine dp (cQ (a0.Switches.length : Int)) (fun (i4 : Int) (qq : Unit) => ⟨tab [(1, bx a0), (3, vi i4)], ac [], 0⟩) 0 (fun (qq : Unit) => ⟨tab [(1, bx a0)], ac [], 0⟩) bK cR (r := r) hl (by unfold bK; omega) ?_ ?_ ?_ ?_
  ·
   rintro i4 ⟨⟩ xr9 hinv7 hgo6 h
   show aI _ _ _ _ _ ⟨tab [(1, bx a0), (3, vi i4)], ac [], 0⟩
   have hc8 : decide (i4 < (a0.Switches.length : Int)) = true := decide_eq_true hgo6
   refine aG ?_
   refine am ⟨tab [(1, bx a0), (3, vi i4), (27, vi (a0.Switches.length : Int)), (28, vb (decide (i4 < (a0.Switches.length : Int))))], ac [], 0⟩ ?_ ?_
   ·
    iterate 3 refine q1 _ ?_
    refine step (v := vi (a0.Switches.length : Int)) (bF (xs := a0.Switches) (e := (D.int .u16)) rfl) ?_
    refine q1 _ ?_
    exact nR []
   refine c8 27 rfl fun hB5 => ?_
   refine aY (t := decide (i4 < (a0.Switches.length : Int))) rfl hc8 ?_
   refine bh ?_
   refine aG ?_
   refine bG ?_
   obtain ⟨x10, hx10, h⟩ := ay h
   obtain ⟨r11, hr11, h⟩ := ay h
   refine am ⟨tab [(1, bx a0), (3, vi i4), (39, vb (r11 != i4))], ac [], 0⟩ ?_ ?_
   ·
    iterate 4 refine q1 _ ?_
    refine step (v := .d (.cptr none (.int .u16 x10) 0)) (cl (xs := a0.Switches) (e := (D.int .u16)) hx10 rfl rfl) ?_
    refine q1 _ ?_
    refine bC (r := .int .i64 r11) (aF (aF aQ.nil')) (sQ hr11) ?_
    iterate 2 refine q1 _ ?_
    exact nR []
   by_cases hc12 : (r11 != i4) = true
   ·
    replace h := aO hc12 h
    refine aY (t := (r11 != i4)) rfl hc12 ?_
    refine am ⟨tab [(2, vi 12)], ac [], 0⟩ ?_ ?_
    ·
     refine q1 _ ?_
     exact nR []
    obtain ⟨r13, kr13, hr⟩ := cq (o := some 12) (g := Br.ret) h
    subst hr
    have h := kr13
    have hh := aq h
    subst hh
    refine aV ?_
    refine And.intro (fun hn => nomatch hn) ?_
    intro hq
    have hq := hq.symm
    subst hq
    show FQ _ _ _ _
    exact br (.inr rfl) (bg (v := vi 12) rfl rfl) (RV.d trivial)
   ·
    replace h := aP hc12 h
    refine aW (t := (r11 != i4)) rfl hc12 ?_
    refine bh ?_
    have hh := aq h
    subst hh
    refine bU ⟨tab [(1, bx a0), (3, vi (i4 + 1))], ac [], 0⟩ ?_ ?_
    ·
     refine q1 _ ?_
     refine step (v := vi (i4 + 1)) (cL (cM hinv7 hgo6 hB5) rfl rfl) ?_
     refine q1 _ ?_
     exact nR []
    exact And.intro rfl rfl
  ·
   rintro i4 ⟨⟩ hinv7 hgo6
   show aI _ _ _ _ _ ⟨tab [(1, bx a0), (3, vi i4)], ac [], 0⟩
   have hc8 : ¬ (decide (i4 < (a0.Switches.length : Int)) = true) := fun hq => hgo6 (of_decide_eq_true hq)
   refine aG ?_
   refine am ⟨tab [(1, bx a0), (3, vi i4), (28, vb (decide (i4 < (a0.Switches.length : Int))))], ac [], 0⟩ ?_ ?_
   ·
    iterate 3 refine q1 _ ?_
    refine step (v := vi (a0.Switches.length : Int)) (bF (xs := a0.Switches) (e := (D.int .u16)) rfl) ?_
    refine q1 _ ?_
    exact nR []
   refine aW (t := decide (i4 < (a0.Switches.length : Int))) rfl hc8 ?_
   refine bb (s0 := ⟨tab [(1, bx a0)], ac [], 0⟩) (nr []) ?_
   refine cI ?_
   exact And.intro rfl rfl
  ·
   intro r' hq
   subst hq
   exact aq h
  rintro ⟨⟩ rfl
  obtain ⟨r13, hr13, h⟩ := ay h
  refine am ⟨tab [(1, bx a0), (4, aL r13)], ac [], 0⟩ ?_ ?_
  ·
   refine q1 _ ?_
   refine bC (r := eL (some 2) eapi_Port r13) (aF aQ.nil') (Al hr13) ?_
   refine q1 _ ?_
   exact nR []
  refine aG ?_
  refine am ⟨tab [(1, bx a0), (4, aL r13), (5, vi 0)], ac [], 0⟩ ?_ ?_
  ·
   refine q1 _ ?_
   exact nR []
  obtain ⟨q40, hl, h⟩ := ay h
  refine bG ?_
  refine dp (cQ (r13.length : Int)) (fun (i14 : Int) (qq : Unit) => ⟨tab [(1, bx a0), (4, aL r13), (5, vi i14)], ac [], 0⟩) 2 (fun (qq : Unit) => ⟨tab [(4, aL r13)], ac [], 0⟩) bK cR (r := r) hl (by unfold bK; omega) ?_ ?_ ?_ ?_
  ·
   rintro i14 ⟨⟩ xr19 hinv17 hgo16 h
   show aI _ _ _ _ _ ⟨tab [(1, bx a0), (4, aL r13), (5, vi i14)], ac [], 0⟩
   have hc18 : decide (i14 < (r13.length : Int)) = true := decide_eq_true hgo16
   refine aG ?_
   refine am ⟨tab [(1, bx a0), (4, aL r13), (5, vi i14), (44, vi (r13.length : Int)), (45, vb (decide (i14 < (r13.length : Int))))], ac [], 0⟩ ?_ ?_
   ·
    iterate 2 refine q1 _ ?_
    refine step (v := vi (r13.length : Int)) (bF (xs := r13) (e := eapi_Port) rfl) ?_
    refine q1 _ ?_
    exact nR []
   refine c8 44 rfl fun hB15 => ?_
   refine aY (t := decide (i14 < (r13.length : Int))) rfl hc18 ?_
   refine bh ?_
   refine aG ?_
   refine bG ?_
   obtain ⟨x20, hx20, h⟩ := ay h
   obtain ⟨r21, hr21, h⟩ := ay h
   refine am ⟨tab [(1, bx a0), (4, aL r13), (5, vi i14), (55, vb (decide (r21 < 0)))], ac [], 0⟩ ?_ ?_
   ·
    iterate 3 refine q1 _ ?_
    refine step (v := cF x20) (cl (xs := r13) (e := eapi_Port) hx20 rfl rfl) ?_
    iterate 2 refine q1 _ ?_
    refine bC (r := .int .i64 r21) (aF (aF aQ.nil')) (sQ hr21) ?_
    refine q1 _ ?_
    exact nR []
   by_cases hc22 : decide (r21 < 0) = true
   ·
    replace h := aO hc22 h
    refine aY (t := decide (r21 < 0)) rfl hc22 ?_
    refine am ⟨tab [(2, vi 12)], ac [], 0⟩ ?_ ?_
    ·
     refine q1 _ ?_
     exact nR []
    obtain ⟨r23, kr23, hr⟩ := cq (o := some 12) (g := Br.ret) h
    subst hr
    have h := kr23
    have hh := aq h
    subst hh
    refine aV ?_
    refine And.intro (fun hn => nomatch hn) ?_
    intro hq
    have hq := hq.symm
    subst hq
    show FQ _ _ _ _
    exact br (.inr rfl) (bg (v := vi 12) rfl rfl) (RV.d trivial)
   ·
    replace h := aP hc22 h
    refine aW (t := decide (r21 < 0)) rfl hc22 ?_
    refine bh ?_
    have hh := aq h
    subst hh
    refine bU ⟨tab [(1, bx a0), (4, aL r13), (5, vi (i14 + 1))], ac [], 0⟩ ?_ ?_
    ·
     refine q1 _ ?_
     refine step (v := vi (i14 + 1)) (cL (cM hinv17 hgo16 hB15) rfl rfl) ?_
     refine q1 _ ?_
     exact nR []
    exact And.intro rfl rfl
  ·
   rintro i14 ⟨⟩ hinv17 hgo16
   show aI _ _ _ _ _ ⟨tab [(1, bx a0), (4, aL r13), (5, vi i14)], ac [], 0⟩
   have hc18 : ¬ (decide (i14 < (r13.length : Int)) = true) := fun hq => hgo16 (of_decide_eq_true hq)
   refine aG ?_
   refine am ⟨tab [(1, bx a0), (4, aL r13), (5, vi i14), (45, vb (decide (i14 < (r13.length : Int))))], ac [], 0⟩ ?_ ?_
   ·
    iterate 2 refine q1 _ ?_
    refine step (v := vi (r13.length : Int)) (bF (xs := r13) (e := eapi_Port) rfl) ?_
    refine q1 _ ?_
    exact nR []
   refine aW (t := decide (i14 < (r13.length : Int))) rfl hc18 ?_
   refine bb (s0 := ⟨tab [(4, aL r13)], ac [], 0⟩) (nr []) ?_
   refine cI ?_
   exact And.intro rfl rfl
  ·
   intro r' hq
   subst hq
   exact aq h
  rintro ⟨⟩ rfl
  refine aG ?_
  refine am ⟨tab [(4, aL r13), (6, vi 0)], ac [], 0⟩ ?_ ?_
  ·
   refine q1 _ ?_
   exact nR []
  obtain ⟨q39, hl, h⟩ := ay h
  refine bG ?_
  refine dp (cQ (r13.length : Int)) (fun (i23 : Int) (qq : Unit) => ⟨tab [(4, aL r13), (6, vi i23)], ac [], 0⟩) 4 (fun (qq : Unit) => ⟨tab [], ac [], 0⟩) bK cR (r := r) hl (by unfold bK; omega) ?_ ?_ ?_ ?_
  ·
   rintro i23 ⟨⟩ xr28 hinv26 hgo25 h
   show aI _ _ _ _ _ ⟨tab [(4, aL r13), (6, vi i23)], ac [], 0⟩
   have hc27 : decide (i23 < (r13.length : Int)) = true := decide_eq_true hgo25
   refine aG ?_
   refine am ⟨tab [(4, aL r13), (6, vi i23), (58, vi (r13.length : Int)), (59, vb (decide (i23 < (r13.length : Int))))], ac [], 0⟩ ?_ ?_
   ·
    iterate 2 refine q1 _ ?_
    refine step (v := vi (r13.length : Int)) (bF (xs := r13) (e := eapi_Port) rfl) ?_
    refine q1 _ ?_
    exact nR []
   refine c8 58 rfl fun hB24 => ?_
   refine aY (t := decide (i23 < (r13.length : Int))) rfl hc27 ?_
   refine bh ?_
   refine aG ?_
   refine bG ?_
   refine am ⟨tab [(4, aL r13), (6, vi i23), (7, vi 0)], ac [], 0⟩ ?_ ?_
   ·
    refine q1 _ ?_
    exact nR []
   obtain ⟨q38, hl, h⟩ := ay h
   refine bG ?_
   refine dp (cQ i23) (fun (i29 : Int) (qq : Unit) => ⟨tab [(4, aL r13), (6, vi i23), (7, vi i29)], ac [], 0⟩) 6 (fun (qq : Unit) => ⟨tab [(4, aL r13), (6, vi i23)], ac [], 0⟩) bK cR (r := xr28) hl (by unfold bK; omega) ?_ ?_ ?_ ?_
   ·
    rintro i29 ⟨⟩ xr34 hinv32 hgo31 h
    show aI _ _ _ _ _ ⟨tab [(4, aL r13), (6, vi i23), (7, vi i29)], ac [], 0⟩
    have hc33 : decide (i29 < i23) = true := decide_eq_true hgo31
    refine aG ?_
    refine am ⟨tab [(4, aL r13), (6, vi i23), (7, vi i29), (63, vi i23), (64, vb (decide (i29 < i23)))], ac [], 0⟩ ?_ ?_
    ·
     iterate 3 refine q1 _ ?_
     exact nR []
    refine c8 63 rfl fun hB30 => ?_
    refine aY (t := decide (i29 < i23)) rfl hc33 ?_
    refine bh ?_
    refine aG ?_
    refine bG ?_
    obtain ⟨x35, hx35, h⟩ := ay h
    obtain ⟨x36, hx36, h⟩ := ay h
    refine am ⟨tab [(4, aL r13), (6, vi i23), (7, vi i29), (75, vb (x35 == x36))], ac [], 0⟩ ?_ ?_
    ·
     iterate 2 refine q1 _ ?_
     refine step (v := cF x35) (cl (xs := r13) (e := eapi_Port) hx35 rfl rfl) ?_
     iterate 3 refine q1 _ ?_
     refine step (v := cF x36) (cl (xs := r13) (e := eapi_Port) hx36 rfl rfl) ?_
     refine q1 _ ?_
     refine step (v := vb (x35 == x36)) (f4 (neg := false) rfl rfl (l4 x35 x36)) ?_
     exact nR []
    by_cases hc37 : (x35 == x36) = true
    ·
     replace h := aO hc37 h
     refine aY (t := (x35 == x36)) rfl hc37 ?_
     refine am ⟨tab [(2, vi 11)], ac [], 0⟩ ?_ ?_
     ·
      refine q1 _ ?_
      exact nR []
     obtain ⟨r38, kr38, hr⟩ := cq (o := some (Br.ret 11)) (g := Br.ret) h
     subst hr
     have h := kr38
     obtain ⟨r39, kr39, hr⟩ := cq (o := some 11) (g := Br.ret) h
     subst hr
     have h := kr39
     have hh := aq h
     subst hh
     refine aV ?_
     refine And.intro (fun hn => nomatch hn) ?_
     intro hq
     have hq := hq.symm
     subst hq
     refine And.intro (fun hn => nomatch hn) ?_
     intro hq
     have hq := hq.symm
     subst hq
     show FQ _ _ _ _
     exact br (.inr rfl) (bg (v := vi 11) rfl rfl) (RV.d trivial)
    ·
     replace h := aP hc37 h
     refine aW (t := (x35 == x36)) rfl hc37 ?_
     refine bh ?_
     have hh := aq h
     subst hh
     refine bU ⟨tab [(4, aL r13), (6, vi i23), (7, vi (i29 + 1))], ac [], 0⟩ ?_ ?_
     ·
      refine q1 _ ?_
      refine step (v := vi (i29 + 1)) (cL (cM hinv32 hgo31 hB30) rfl rfl) ?_
      refine q1 _ ?_
      exact nR []
     exact And.intro rfl rfl
   ·
    rintro i29 ⟨⟩ hinv32 hgo31
    show aI _ _ _ _ _ ⟨tab [(4, aL r13), (6, vi i23), (7, vi i29)], ac [], 0⟩
    have hc33 : ¬ (decide (i29 < i23) = true) := fun hq => hgo31 (of_decide_eq_true hq)
    refine aG ?_
    refine am ⟨tab [(4, aL r13), (6, vi i23), (7, vi i29), (64, vb (decide (i29 < i23)))], ac [], 0⟩ ?_ ?_
    ·
     iterate 3 refine q1 _ ?_
     exact nR []
    refine aW (t := decide (i29 < i23)) rfl hc33 ?_
    refine bb (s0 := ⟨tab [(4, aL r13), (6, vi i23)], ac [], 0⟩) (nr []) ?_
    refine cI ?_
    exact And.intro rfl rfl
   ·
    intro r' hq
    subst hq
    exact aq h
   rintro ⟨⟩ rfl
   have hh := aq h
   subst hh
   refine bU ⟨tab [(4, aL r13), (6, vi (i23 + 1))], ac [], 0⟩ ?_ ?_
   ·
    refine q1 _ ?_
    refine step (v := vi (i23 + 1)) (cL (cM hinv26 hgo25 hB24) rfl rfl) ?_
    refine q1 _ ?_
    exact nR []
   exact And.intro rfl rfl
  ·
   rintro i23 ⟨⟩ hinv26 hgo25
   show aI _ _ _ _ _ ⟨tab [(4, aL r13), (6, vi i23)], ac [], 0⟩
   have hc27 : ¬ (decide (i23 < (r13.length : Int)) = true) := fun hq => hgo25 (of_decide_eq_true hq)
   refine aG ?_
   refine am ⟨tab [(4, aL r13), (6, vi i23), (59, vb (decide (i23 < (r13.length : Int))))], ac [], 0⟩ ?_ ?_
   ·
    iterate 2 refine q1 _ ?_
    refine step (v := vi (r13.length : Int)) (bF (xs := r13) (e := eapi_Port) rfl) ?_
    refine q1 _ ?_
    exact nR []
   refine aW (t := decide (i23 < (r13.length : Int))) rfl hc27 ?_
   refine bb (s0 := ⟨tab [], ac [], 0⟩) (nr []) ?_
   refine cI ?_
   exact And.intro rfl rfl
  ·
   intro r' hq
   subst hq
   exact aq h
  rintro ⟨⟩ rfl
  refine am ⟨tab [(2, vi 0)], ac [], 0⟩ ?_ ?_
  ·
   refine q1 _ ?_
   exact nR []
  have hh := aq h
  subst hh
  refine aV ?_
  show FQ _ _ _ _
  exact br (.inr rfl) (bg (v := vi 0) rfl rfl) (RV.d trivial)
theorem An {a0 : law14_Net} {r : (ai × Bool)} (h : lK a0 = some r) : PCall Try.prog 39 [elaw14_Net a0] (.tup [bN r.1, .bool r.2]) := by
 refine PCall.introN zm (show 1 ≤ 47 by decide) ?_
 refine bb (s0 := ⟨tab [(0, .d (elaw14_Net a0))], ac [], 0⟩) (nr []) ?_
 refine am ⟨tab [(1, cn a0), (2, .ptr 0 0 0)], ac [(0, bz)], 1⟩ ?_ ?_
 ·
  refine q1 _ ?_
  refine step (v := .ptr 0 0 0) (σ' := (al (ac []) 0 (some (bz)))) (n' := 1) rfl ?_
  refine q1 _ ?_
  exact nR [0]
 obtain ⟨r1, hr1, h⟩ := ay h
 refine am ⟨tab [(1, cn a0), (2, .ptr 0 0 0), (4, .ptr 1 0 0), (5, vb r1.2)], ac [(0, bz), (1, .var [vi r1.1.Op, vi r1.1.F, vh r1.1.N, ax r1.1.Kids])], 2⟩ ?_ ?_
 ·
  iterate 2 refine q1 _ ?_
  refine bC (r := .tup [bN r1.1, .bool r1.2]) (aF aQ.nil') (z7 hr1) ?_
  iterate 3 refine q1 _ ?_
  refine step (v := .ptr 1 0 0) (σ' := (al (ac [(0, bz)]) 1 (some (bz)))) (n' := 2) rfl ?_
  refine step (v := V.undef) (σ' := (al (al (ac [(0, bz)]) 1 (some (bz))) 1 (some (.var [vi r1.1.Op, vi r1.1.F, vh r1.1.N, ax r1.1.Kids])))) (n' := 2) rfl ?_
  refine q1 _ ?_
  exact nR [0, 1]
 obtain ⟨y8, hv, h⟩ := ay h
 refine am ⟨tab [(2, .ptr 0 0 0), (3, vb y8)], ac [(0, .var [vi r1.1.Op, vi r1.1.F, vh r1.1.N, ax r1.1.Kids])], 1⟩ ?_ ?_
 ·
  refine step (v := vs1 r1.1) (cb (ds := [.int .i64 r1.1.Op, .int .i64 r1.1.F, .int .u16 r1.1.N, eL (some 4) aN r1.1.Kids]) rfl rfl (show 4 ≤ 4 by decide) rfl) ?_
  iterate 2 refine q1 _ ?_
  by_cases hg2 : r1.2 = true
  ·
   replace hv := aO hg2 hv
   refine qG _ hg2 ?_
   refine q1 _ ?_
   refine qG _ hg2 ?_
   refine q1 _ ?_
   refine qG _ hg2 ?_
   refine q1 _ ?_
   refine qG _ hg2 ?_
   refine step (v := vi (a0.T.Switches.length : Int)) (bF (xs := a0.T.Switches) (e := (D.int .u16)) rfl) ?_
   refine qG _ hg2 ?_
   refine q1 _ ?_
   refine step (v := vb (decide ((a0.T.Switches.length : Int) ≤ 30))) (bw (b := r1.2) rfl hg2 rfl) ?_
   refine q1 _ ?_
   by_cases hg3 : decide ((a0.T.Switches.length : Int) ≤ 30) = true
   ·
    replace hv := aO hg3 hv
    refine qG _ hg3 ?_
    refine q1 _ ?_
    refine qG _ hg3 ?_
    refine q1 _ ?_
    refine qG _ hg3 ?_
    refine q1 _ ?_
    refine qG _ hg3 ?_
    refine step (v := vi (a0.T.Links.length : Int)) (bF (xs := a0.T.Links) (e := (cX eapi_Port)) rfl) ?_
    refine qG _ hg3 ?_
    refine q1 _ ?_
    refine step (v := vb (decide ((a0.T.Links.length : Int) ≤ 30))) (bw (b := decide ((a0.T.Switches.length : Int) ≤ 30)) rfl hg3 rfl) ?_
    refine q1 _ ?_
    by_cases hg4 : decide ((a0.T.Links.length : Int) ≤ 30) = true
    ·
     replace hv := aO hg4 hv
     refine qG _ hg4 ?_
     refine q1 _ ?_
     refine qG _ hg4 ?_
     refine q1 _ ?_
     refine qG _ hg4 ?_
     refine q1 _ ?_
     refine qG _ hg4 ?_
     refine step (v := vi (a0.T.Hosts.length : Int)) (bF (xs := a0.T.Hosts) (e := eapi_Port) rfl) ?_
     refine qG _ hg4 ?_
     refine q1 _ ?_
     refine step (v := vb (decide ((a0.T.Hosts.length : Int) ≤ 30))) (bw (b := decide ((a0.T.Links.length : Int) ≤ 30)) rfl hg4 rfl) ?_
     refine q1 _ ?_
     by_cases hg5 : decide ((a0.T.Hosts.length : Int) ≤ 30) = true
     ·
      replace hv := aO hg5 hv
      refine qG _ hg5 ?_
      refine q1 _ ?_
      refine qG _ hg5 ?_
      refine q1 _ ?_
      refine qG _ hg5 ?_
      refine step (v := vi (a0.State.length : Int)) (bF (xs := a0.State) (e := (D.int .u16)) rfl) ?_
      refine qG _ hg5 ?_
      refine q1 _ ?_
      refine step (v := vb (decide ((a0.State.length : Int) ≤ 6))) (bw (b := decide ((a0.T.Hosts.length : Int) ≤ 30)) rfl hg5 rfl) ?_
      refine q1 _ ?_
      by_cases hg6 : decide ((a0.State.length : Int) ≤ 6) = true
      ·
       replace hv := aO hg6 hv
       obtain ⟨r7, hr7, hv⟩ := ay hv
       refine qG _ hg6 ?_
       refine q1 _ ?_
       refine qG _ hg6 ?_
       refine q1 _ ?_
       refine qG _ hg6 ?_
       refine bC (r := .int .i64 r7) (aF aQ.nil') (Am hr7) ?_
       refine qG _ hg6 ?_
       refine q1 _ ?_
       refine step (v := vb (r7 == 0)) (bw (b := decide ((a0.State.length : Int) ≤ 6)) rfl hg6 rfl) ?_
       refine step (v := V.undef) (σ' := (al (ac [(0, bz), (1, .var [vi r1.1.Op, vi r1.1.F, vh r1.1.N, ax r1.1.Kids])]) 0 (some (.var [vi r1.1.Op, vi r1.1.F, vh r1.1.N, ax r1.1.Kids])))) (n' := 2) rfl ?_
       refine q1 _ ?_
       have hh := aq hv
       subst hh
       exact nR [0]
      ·
       replace hv := aP hg6 hv
       iterate 4 refine qX _ hg6 ?_
       refine step (v := vb false) (bp (b := decide ((a0.State.length : Int) ≤ 6)) rfl hg6 rfl) ?_
       refine step (v := V.undef) (σ' := (al (ac [(0, bz), (1, .var [vi r1.1.Op, vi r1.1.F, vh r1.1.N, ax r1.1.Kids])]) 0 (some (.var [vi r1.1.Op, vi r1.1.F, vh r1.1.N, ax r1.1.Kids])))) (n' := 2) rfl ?_
       refine q1 _ ?_
       have hh := aq hv
       subst hh
       exact nR [0]
     ·
      replace hv := aP hg5 hv
      iterate 4 refine qX _ hg5 ?_
      refine step (v := vb false) (bp (b := decide ((a0.T.Hosts.length : Int) ≤ 30)) rfl hg5 rfl) ?_
      refine q1 _ ?_
      iterate 4 refine qX false (by decide) ?_
      refine step (v := vb false) (bp (b := false) rfl (by decide) rfl) ?_
      refine step (v := V.undef) (σ' := (al (ac [(0, bz), (1, .var [vi r1.1.Op, vi r1.1.F, vh r1.1.N, ax r1.1.Kids])]) 0 (some (.var [vi r1.1.Op, vi r1.1.F, vh r1.1.N, ax r1.1.Kids])))) (n' := 2) rfl ?_
      refine q1 _ ?_
      have hh := aq hv
      subst hh
      exact nR [0]
    ·
     replace hv := aP hg4 hv
     iterate 5 refine qX _ hg4 ?_
     refine step (v := vb false) (bp (b := decide ((a0.T.Links.length : Int) ≤ 30)) rfl hg4 rfl) ?_
     refine q1 _ ?_
     iterate 4 refine qX false (by decide) ?_
     refine step (v := vb false) (bp (b := false) rfl (by decide) rfl) ?_
     refine q1 _ ?_
     iterate 4 refine qX false (by decide) ?_
     refine step (v := vb false) (bp (b := false) rfl (by decide) rfl) ?_
     refine step (v := V.undef) (σ' := (al (ac [(0, bz), (1, .var [vi r1.1.Op, vi r1.1.F, vh r1.1.N, ax r1.1.Kids])]) 0 (some (.var [vi r1.1.Op, vi r1.1.F, vh r1.1.N, ax r1.1.Kids])))) (n' := 2) rfl ?_
     refine q1 _ ?_
     have hh := aq hv
     subst hh
     exact nR [0]
   ·
    replace hv := aP hg3 hv
    iterate 5 refine qX _ hg3 ?_
    refine step (v := vb false) (bp (b := decide ((a0.T.Switches.length : Int) ≤ 30)) rfl hg3 rfl) ?_
    refine q1 _ ?_
    iterate 5 refine qX false (by decide) ?_
    refine step (v := vb false) (bp (b := false) rfl (by decide) rfl) ?_
    refine q1 _ ?_
    iterate 4 refine qX false (by decide) ?_
    refine step (v := vb false) (bp (b := false) rfl (by decide) rfl) ?_
    refine q1 _ ?_
    iterate 4 refine qX false (by decide) ?_
    refine step (v := vb false) (bp (b := false) rfl (by decide) rfl) ?_
    refine step (v := V.undef) (σ' := (al (ac [(0, bz), (1, .var [vi r1.1.Op, vi r1.1.F, vh r1.1.N, ax r1.1.Kids])]) 0 (some (.var [vi r1.1.Op, vi r1.1.F, vh r1.1.N, ax r1.1.Kids])))) (n' := 2) rfl ?_
    refine q1 _ ?_
    have hh := aq hv
    subst hh
    exact nR [0]
  ·
   replace hv := aP hg2 hv
   iterate 5 refine qX _ hg2 ?_
   refine step (v := vb false) (bp (b := r1.2) rfl hg2 rfl) ?_
   refine q1 _ ?_
   iterate 5 refine qX false (by decide) ?_
   refine step (v := vb false) (bp (b := false) rfl (by decide) rfl) ?_
   refine q1 _ ?_
   iterate 5 refine qX false (by decide) ?_
   refine step (v := vb false) (bp (b := false) rfl (by decide) rfl) ?_
   refine q1 _ ?_
   iterate 4 refine qX false (by decide) ?_
   refine step (v := vb false) (bp (b := false) rfl (by decide) rfl) ?_
   refine q1 _ ?_
   iterate 4 refine qX false (by decide) ?_
   refine step (v := vb false) (bp (b := false) rfl (by decide) rfl) ?_
   refine step (v := V.undef) (σ' := (al (ac [(0, bz), (1, .var [vi r1.1.Op, vi r1.1.F, vh r1.1.N, ax r1.1.Kids])]) 0 (some (.var [vi r1.1.Op, vi r1.1.F, vh r1.1.N, ax r1.1.Kids])))) (n' := 2) rfl ?_
   refine q1 _ ?_
   have hh := aq hv
   subst hh
   exact nR [0]
 have hh := aq h
 subst hh
 refine aV ?_
 show FQ _ _ _ _
 exact eE (.inr rfl) (ff (ds := [.int .i64 r1.1.Op, .int .i64 r1.1.F, .int .u16 r1.1.N, eL (some 4) aN r1.1.Kids]) rfl rfl (show 4 ≤ 4 by decide) rfl (bg (v := vb y8) rfl rfl)) (RV.d (RV.d trivial))
theorem Ao {a0 : (List (A8 Int))} {a1 : (List (A8 Int))} {r : Bool} (h : j6 a0 a1 = some r) : PCall Try.prog 42 [eL (some 8) (eA8 (D.int .u16)) a0, eL (some 8) (eA8 (D.int .u16)) a1] (.bool r) := by
 refine PCall.introN zp (show 2 ≤ 32 by decide) ?_
 refine bb (s0 := ⟨tab [(0, .d (eL (some 8) (eA8 (D.int .u16)) a0)), (1, .d (eL (some 8) (eA8 (D.int .u16)) a1))], ac [], 0⟩) (nr []) ?_
 refine am ⟨tab [(0, .d (eL (some 8) (eA8 (D.int .u16)) a0)), (1, .d (eL (some 8) (eA8 (D.int .u16)) a1))], ac [], 0⟩ ?_ ?_
 ·
  refine q1 _ ?_
  exact nR []
 refine aG ?_
 refine am ⟨tab [(0, .d (eL (some 8) (eA8 (D.int .u16)) a0)), (1, .d (eL (some 8) (eA8 (D.int .u16)) a1)), (5, vi 0)], ac [], 0⟩ ?_ ?_
 ·
  refine q1 _ ?_
  exact nR []
 obtain ⟨q10, hl, h⟩ := ay h
 refine bG ?_
 refine u1 (fun (qq : Int) => ⟨tab [(0, .d (eL (some 8) (eA8 (D.int .u16)) a0)), (1, .d (eL (some 8) (eA8 (D.int .u16)) a1)), (5, vi qq)], ac [], 0⟩) 0 (fun (qq : Int) => ⟨tab [], ac [], 0⟩) (r := r) hl ?_ ?_ ?_
 ·
  rintro i1 xr2 h
  show aI _ _ _ _ _ ⟨tab [(0, .d (eL (some 8) (eA8 (D.int .u16)) a0)), (1, .d (eL (some 8) (eA8 (D.int .u16)) a1)), (5, vi i1)], ac [], 0⟩
  refine aG ?_
  refine am ⟨tab [(0, .d (eL (some 8) (eA8 (D.int .u16)) a0)), (1, .d (eL (some 8) (eA8 (D.int .u16)) a1)), (5, vi i1), (16, vb ((decide (i1 < (a0.length : Int))) && (decide (i1 < (a1.length : Int)))))], ac [], 0⟩ ?_ ?_
  ·
   iterate 2 refine q1 _ ?_
   refine step (v := vi (a0.length : Int)) (bF (xs := a0) (e := (eA8 (D.int .u16))) rfl) ?_
   iterate 2 refine q1 _ ?_
   by_cases hg3 : decide (i1 < (a0.length : Int)) = true
   ·
    refine qG _ hg3 ?_
    refine q1 _ ?_
    refine qG _ hg3 ?_
    refine q1 _ ?_
    refine qG _ hg3 ?_
    refine step (v := vi (a1.length : Int)) (bF (xs := a1) (e := (eA8 (D.int .u16))) rfl) ?_
    refine qG _ hg3 ?_
    refine q1 _ ?_
    refine step (v := vb (decide (i1 < (a1.length : Int)))) (bw (b := decide (i1 < (a0.length : Int))) rfl hg3 rfl) ?_
    exact aZ.nil' (nm [] ⟨.d _, .d _, .d _, .eq (by first | (simp [hg3]; done) | (simp_all; done) | grind), trivial⟩ trivial)
   ·
    iterate 4 refine qX _ hg3 ?_
    refine step (v := vb false) (bp (b := decide (i1 < (a0.length : Int))) rfl hg3 rfl) ?_
    exact aZ.nil' (nm [] ⟨.d _, .d _, .d _, .eq (by first | (simp [hg3]; done) | (simp_all; done) | grind), trivial⟩ trivial)
  by_cases hc4 : ((decide (i1 < (a0.length : Int))) && (decide (i1 < (a1.length : Int)))) = true
  ·
   replace h := aO hc4 h
   refine aY (t := ((decide (i1 < (a0.length : Int))) && (decide (i1 < (a1.length : Int))))) rfl hc4 ?_
   refine bh ?_
   refine aG ?_
   refine bG ?_
   obtain ⟨x5, hx5, h⟩ := ay h
   obtain ⟨x6, hx6, h⟩ := ay h
   obtain ⟨r7, hr7, h⟩ := ay h
   refine am ⟨tab [(0, .d (eL (some 8) (eA8 (D.int .u16)) a0)), (1, .d (eL (some 8) (eA8 (D.int .u16)) a1)), (5, vi i1), (6, vi r7)], ac [], 0⟩ ?_ ?_
   ·
    iterate 2 refine q1 _ ?_
    refine step (v := .d (.cptr (some 8) (eA8 (D.int .u16) x5) 0)) (cl (xs := a0) (e := (eA8 (D.int .u16))) hx5 rfl rfl) ?_
    iterate 3 refine q1 _ ?_
    refine step (v := .d (.cptr (some 8) (eA8 (D.int .u16) x6) 0)) (cl (xs := a1) (e := (eA8 (D.int .u16))) hx6 rfl rfl) ?_
    refine q1 _ ?_
    refine bC (r := .int .i64 r7) (aF (aF aQ.nil')) (z8 hr7) ?_
    refine q1 _ ?_
    exact nR []
   refine am ⟨tab [(0, .d (eL (some 8) (eA8 (D.int .u16)) a0)), (1, .d (eL (some 8) (eA8 (D.int .u16)) a1)), (5, vi i1), (6, vi r7), (29, vb (r7 != 0))], ac [], 0⟩ ?_ ?_
   ·
    iterate 2 refine q1 _ ?_
    exact nR []
   by_cases hc8 : (r7 != 0) = true
   ·
    replace h := aO hc8 h
    refine aY (t := (r7 != 0)) rfl hc8 ?_
    refine am ⟨tab [(4, vb (decide (r7 < 0)))], ac [], 0⟩ ?_ ?_
    ·
     iterate 3 refine q1 _ ?_
     exact nR []
    obtain ⟨r9, kr9, hr⟩ := cq (o := some (decide (r7 < 0))) (g := Br.ret) h
    subst hr
    have h := kr9
    have hh := aq h
    subst hh
    refine aV ?_
    refine And.intro (fun hn => nomatch hn) ?_
    intro hq
    have hq := hq.symm
    subst hq
    show FQ _ _ _ _
    exact br (.inr rfl) (bg (v := vb (decide (r7 < 0))) rfl rfl) (RV.d trivial)
   ·
    replace h := aP hc8 h
    refine aW (t := (r7 != 0)) rfl hc8 ?_
    refine bh ?_
    have hh := aq h
    subst hh
    refine bU ⟨tab [(0, .d (eL (some 8) (eA8 (D.int .u16)) a0)), (1, .d (eL (some 8) (eA8 (D.int .u16)) a1)), (5, vi (IntKind.i64.wrap (i1 + 1)))], ac [], 0⟩ ?_ ?_
    ·
     iterate 3 refine q1 _ ?_
     exact nR []
    exact And.intro rfl rfl
  ·
   replace h := aP hc4 h
   refine aW (t := ((decide (i1 < (a0.length : Int))) && (decide (i1 < (a1.length : Int))))) rfl hc4 ?_
   have hh := aq h
   subst hh
   refine bb (s0 := ⟨tab [], ac [], 0⟩) (nr []) ?_
   refine cI ?_
   exact And.intro rfl rfl
 ·
  intro r' hq
  subst hq
  exact aq h
 rintro z9 rfl
 refine am ⟨tab [(4, vb false)], ac [], 0⟩ ?_ ?_
 ·
  refine q1 _ ?_
  exact nR []
 have hh := aq h
 subst hh
 refine aV ?_
 show FQ _ _ _ _
 exact br (.inr rfl) (bg (v := vb false) rfl rfl) (RV.d trivial)
theorem c_law14_WalkTold {a0 : law14_Net} {a1 : (A8 Int)} {r : Bool} (h : law14_WalkTold a0 a1 = some r) : PCall Try.prog 10 [elaw14_Net a0, eA8 (D.int .u16) a1] (.bool r) := by
 refine PCall.introN zu (show 2 ≤ 127 by decide) ?_
 refine bb (s0 := ⟨tab [(0, .d (elaw14_Net a0)), (1, .d (eA8 (D.int .u16) a1))], ac [], 0⟩) (nr []) ?_
 refine am ⟨tab [(2, cn a0), (3, .d (.cptr (some 8) (eA8 (D.int .u16) a1) 0))], ac [], 0⟩ ?_ ?_
 ·
  iterate 3 refine q1 _ ?_
  exact nR []
 refine aG ?_
 obtain ⟨r1, hr1, h⟩ := ay h
 refine am ⟨tab [(2, cn a0), (3, .d (.cptr (some 8) (eA8 (D.int .u16) a1) 0)), (16, vb (!r1))], ac [], 0⟩ ?_ ?_
 ·
  refine bC (r := .bool r1) aQ.nil' (Ak hr1) ?_
  refine q1 _ ?_
  exact nR []
 by_cases hc2 : (!r1) = true
 ·
  replace h := aO hc2 h
  refine aY (t := (!r1)) rfl hc2 ?_
  refine am ⟨tab [(4, vb false)], ac [], 0⟩ ?_ ?_
  ·
   refine q1 _ ?_
   exact nR []
  have hh := aq h
  subst hh
  refine aV ?_
  show FQ _ _ _ _
  exact br (.inr rfl) (bg (v := vb false) rfl rfl) (RV.d trivial)
 ·
  replace h := aP hc2 h
  refine aW (t := (!r1)) rfl hc2 ?_
  refine bh ?_
  obtain ⟨r3, hr3, h⟩ := ay h
  refine am ⟨tab [(2, cn a0), (3, .d (.cptr (some 8) (eA8 (D.int .u16) a1) 0)), (5, .ptr 0 0 0), (6, vb r3.2)], ac [(0, .var [vi r3.1.Op, vi r3.1.F, vh r3.1.N, ax r3.1.Kids])], 1⟩ ?_ ?_
  ·
   refine q1 _ ?_
   refine bC (r := .tup [bN r3.1, .bool r3.2]) (aF aQ.nil') (An hr3) ?_
   iterate 3 refine q1 _ ?_
   refine step (v := .ptr 0 0 0) (σ' := (al (ac []) 0 (some (bz)))) (n' := 1) rfl ?_
   refine step (v := V.undef) (σ' := (al (al (ac []) 0 (some (bz))) 0 (some (.var [vi r3.1.Op, vi r3.1.F, vh r3.1.N, ax r3.1.Kids])))) (n' := 1) rfl ?_
   refine q1 _ ?_
   exact nR [0]
  refine aG ?_
  refine am ⟨tab [(2, cn a0), (3, .d (.cptr (some 8) (eA8 (D.int .u16) a1) 0)), (5, .ptr 0 0 0), (23, vb (!r3.2))], ac [(0, .var [vi r3.1.Op, vi r3.1.F, vh r3.1.N, ax r3.1.Kids])], 1⟩ ?_ ?_
  ·
   iterate 2 refine q1 _ ?_
   exact nR [0]
  by_cases hc4 : (!r3.2) = true
  ·
   replace h := aO hc4 h
   refine aY (t := (!r3.2)) rfl hc4 ?_
   refine am ⟨tab [(4, vb true)], ac [], 0⟩ ?_ ?_
   ·
    refine q1 _ ?_
    exact nR []
   have hh := aq h
   subst hh
   refine aV ?_
   show FQ _ _ _ _
   exact br (.inr rfl) (bg (v := vb true) rfl rfl) (RV.d trivial)
  ·
   replace h := aP hc4 h
   refine aW (t := (!r3.2)) rfl hc4 ?_
   refine bh ?_
   obtain ⟨r5, hr5, h⟩ := ay h
   refine am ⟨tab [(2, cn a0), (3, .d (.cptr (some 8) (eA8 (D.int .u16) a1) 0)), (5, .ptr 0 0 0), (7, .d (eL none (eL (some 8) (eA8 (D.int .u16))) r5.1)), (8, vi r5.2)], ac [(0, .var [vi r3.1.Op, vi r3.1.F, vh r3.1.N, ax r3.1.Kids])], 1⟩ ?_ ?_
   ·
    iterate 2 refine q1 _ ?_
    refine step (v := vs1 r3.1) (cb (ds := [.int .i64 r3.1.Op, .int .i64 r3.1.F, .int .u16 r3.1.N, eL (some 4) aN r3.1.Kids]) rfl rfl (show 4 ≤ 4 by decide) rfl) ?_
    iterate 3 refine q1 _ ?_
    refine bC (r := .tup [eL none (eL (some 8) (eA8 (D.int .u16))) r5.1, .int .i64 r5.2]) (aF (aF (aF (aF aQ.nil')))) (sP hr5) ?_
    iterate 5 refine q1 _ ?_
    exact nR [0]
   refine aG ?_
   refine am ⟨tab [(2, cn a0), (3, .d (.cptr (some 8) (eA8 (D.int .u16) a1) 0)), (5, .ptr 0 0 0), (7, .d (eL none (eL (some 8) (eA8 (D.int .u16))) r5.1)), (35, vb (r5.2 != 0))], ac [(0, .var [vi r3.1.Op, vi r3.1.F, vh r3.1.N, ax r3.1.Kids])], 1⟩ ?_ ?_
   ·
    iterate 2 refine q1 _ ?_
    exact nR [0]
   by_cases hc6 : (r5.2 != 0) = true
   ·
    replace h := aO hc6 h
    refine aY (t := (r5.2 != 0)) rfl hc6 ?_
    refine am ⟨tab [(4, vb ((r5.1.length : Int) == 0))], ac [], 0⟩ ?_ ?_
    ·
     refine q1 _ ?_
     refine step (v := vi (r5.1.length : Int)) (bF (xs := r5.1) (e := (eL (some 8) (eA8 (D.int .u16)))) rfl) ?_
     iterate 2 refine q1 _ ?_
     exact nR []
    have hh := aq h
    subst hh
    refine aV ?_
    show FQ _ _ _ _
    exact br (.inr rfl) (bg (v := vb ((r5.1.length : Int) == 0)) rfl rfl) (RV.d trivial)
   ·
    replace h := aP hc6 h
    refine aW (t := (r5.2 != 0)) rfl hc6 ?_
    refine bh ?_
    refine aG ?_
    refine am ⟨tab [(2, cn a0), (3, .d (.cptr (some 8) (eA8 (D.int .u16) a1) 0)), (5, .ptr 0 0 0), (7, .d (eL none (eL (some 8) (eA8 (D.int .u16))) r5.1)), (46, vb (((r5.1.length : Int) == 0) || (decide ((r5.1.length : Int) > 200))))], ac [(0, .var [vi r3.1.Op, vi r3.1.F, vh r3.1.N, ax r3.1.Kids])], 1⟩ ?_ ?_
    ·
     refine q1 _ ?_
     refine step (v := vi (r5.1.length : Int)) (bF (xs := r5.1) (e := (eL (some 8) (eA8 (D.int .u16)))) rfl) ?_
     iterate 2 refine q1 _ ?_
     by_cases hg7 : ((r5.1.length : Int) == 0) = true
     ·
      iterate 3 refine qX ((r5.1.length : Int) == 0) (by rw [hg7]; decide) ?_
      refine step (v := vb true) (bw (b := ((r5.1.length : Int) == 0)) rfl hg7 rfl) ?_
      exact aZ.nil' (nm [0] ⟨.d _, .d _, .pt 0, .d _, .eq (by first | (simp [hg7]; done) | (simp_all; done) | grind), trivial⟩ ⟨⟨show 0 < 1 by decide, _, rfl, .vars ⟨.d _, .d _, .d _, .d _, trivial⟩⟩, trivial⟩)
     ·
      refine qG ((r5.1.length : Int) == 0) (Bool.eq_false_iff.2 hg7) ?_
      refine q1 _ ?_
      refine qG ((r5.1.length : Int) == 0) (Bool.eq_false_iff.2 hg7) ?_
      refine step (v := vi (r5.1.length : Int)) (bF (xs := r5.1) (e := (eL (some 8) (eA8 (D.int .u16)))) rfl) ?_
      refine qG ((r5.1.length : Int) == 0) (Bool.eq_false_iff.2 hg7) ?_
      refine q1 _ ?_
      refine step (v := vb (decide ((r5.1.length : Int) > 200))) (bp (b := ((r5.1.length : Int) == 0)) rfl hg7 rfl) ?_
      exact aZ.nil' (nm [0] ⟨.d _, .d _, .pt 0, .d _, .eq (by first | (simp [hg7]; done) | (simp_all; done) | grind), trivial⟩ ⟨⟨show 0 < 1 by decide, _, rfl, .vars ⟨.d _, .d _, .d _, .d _, trivial⟩⟩, trivial⟩)
    by_cases hc8 : (((r5.1.length : Int) == 0) || (decide ((r5.1.length : Int) > 200))) = true
    ·
     replace h := aO hc8 h
     refine aY (t := (((r5.1.length : Int) == 0) || (decide ((r5.1.length : Int) > 200)))) rfl hc8 ?_
     refine am ⟨tab [(4, vb false)], ac [], 0⟩ ?_ ?_
     ·
      refine q1 _ ?_
      exact nR []
     have hh := aq h
     subst hh
     refine aV ?_
     show FQ _ _ _ _
     exact br (.inr rfl) (bg (v := vb false) rfl rfl) (RV.d trivial)
    ·
     replace h := aP hc8 h
     refine aW (t := (((r5.1.length : Int) == 0) || (decide ((r5.1.length : Int) > 200)))) rfl hc8 ?_
     refine bh ?_
     refine am ⟨tab [(2, cn a0), (3, .d (.cptr (some 8) (eA8 (D.int .u16) a1) 0)), (5, .ptr 0 0 0), (7, .d (eL none (eL (some 8) (eA8 (D.int .u16))) r5.1)), (9, .mref 1)], ac [(0, .var [vi r3.1.Op, vi r3.1.F, vh r3.1.N, ax r3.1.Kids]), (1, .mp (eM (eA8 (D.int .u16)) D.bool ([] : List ((A8 Int) × Bool))))], 2⟩ ?_ ?_
     ·
      refine step (v := .mref 1) (σ' := (al (ac [(0, .var [vi r3.1.Op, vi r3.1.F, vh r3.1.N, ax r3.1.Kids])]) 1 (some (.mp (eM (eA8 (D.int .u16)) D.bool ([] : List ((A8 Int) × Bool))))))) (n' := 2) rfl ?_
      refine q1 _ ?_
      exact nR [0, 1]
     refine aG ?_
     refine am ⟨tab [(2, cn a0), (3, .d (.cptr (some 8) (eA8 (D.int .u16) a1) 0)), (5, .ptr 0 0 0), (7, .d (eL none (eL (some 8) (eA8 (D.int .u16))) r5.1)), (9, .mref 1), (48, .d (eL none (eL (some 8) (eA8 (D.int .u16))) r5.1)), (49, vi (r5.1.length : Int)), (50, vi 0)], ac [(0, .var [vi r3.1.Op, vi r3.1.F, vh r3.1.N, ax r3.1.Kids]), (1, .mp (eM (eA8 (D.int .u16)) D.bool ([] : List ((A8 Int) × Bool))))], 2⟩ ?_ ?_
     ·
      refine q1 _ ?_
      refine step (v := vi (r5.1.length : Int)) (bF (xs := r5.1) (e := (eL (some 8) (eA8 (D.int .u16)))) rfl) ?_
      refine q1 _ ?_
      exact nR [0, 1]
     obtain ⟨q45, hl, h⟩ := ay h
     refine bG ?_
     refine dp (cQ (r5.1.length : Int)) (fun (i10 : Int) (qq : (List ((A8 Int) × Bool))) => ⟨tab [(2, cn a0), (3, .d (.cptr (some 8) (eA8 (D.int .u16) a1) 0)), (5, .ptr 0 0 0), (7, .d (eL none (eL (some 8) (eA8 (D.int .u16))) r5.1)), (9, .mref 1), (48, .d (eL none (eL (some 8) (eA8 (D.int .u16))) r5.1)), (49, vi (r5.1.length : Int)), (50, vi i10)], ac [(0, .var [vi r3.1.Op, vi r3.1.F, vh r3.1.N, ax r3.1.Kids]), (1, .mp (eM (eA8 (D.int .u16)) D.bool qq))], 2⟩) 0 (fun (qq : (List ((A8 Int) × Bool))) => ⟨tab [(2, cn a0), (3, .d (.cptr (some 8) (eA8 (D.int .u16) a1) 0)), (5, .ptr 0 0 0), (9, .mref 1)], ac [(0, .var [vi r3.1.Op, vi r3.1.F, vh r3.1.N, ax r3.1.Kids]), (1, .mp (eM (eA8 (D.int .u16)) D.bool qq))], 2⟩) bK cR (r := r) hl (by unfold bK; omega) ?_ ?_ ?_ ?_
     ·
      rintro i10 m9 xr15 hinv13 hgo12 h
      show aI _ _ _ _ _ ⟨tab [(2, cn a0), (3, .d (.cptr (some 8) (eA8 (D.int .u16) a1) 0)), (5, .ptr 0 0 0), (7, .d (eL none (eL (some 8) (eA8 (D.int .u16))) r5.1)), (9, .mref 1), (48, .d (eL none (eL (some 8) (eA8 (D.int .u16))) r5.1)), (49, vi (r5.1.length : Int)), (50, vi i10)], ac [(0, .var [vi r3.1.Op, vi r3.1.F, vh r3.1.N, ax r3.1.Kids]), (1, .mp (eM (eA8 (D.int .u16)) D.bool m9))], 2⟩
      have hc14 : decide (i10 < (r5.1.length : Int)) = true := decide_eq_true hgo12
      refine am ⟨tab [(2, cn a0), (3, .d (.cptr (some 8) (eA8 (D.int .u16) a1) 0)), (5, .ptr 0 0 0), (7, .d (eL none (eL (some 8) (eA8 (D.int .u16))) r5.1)), (9, .mref 1), (48, .d (eL none (eL (some 8) (eA8 (D.int .u16))) r5.1)), (49, vi (r5.1.length : Int)), (50, vi i10), (51, vb (decide (i10 < (r5.1.length : Int))))], ac [(0, .var [vi r3.1.Op, vi r3.1.F, vh r3.1.N, ax r3.1.Kids]), (1, .mp (eM (eA8 (D.int .u16)) D.bool m9))], 2⟩ ?_ ?_
      ·
       refine q1 _ ?_
       exact nR [0, 1]
      refine c8 49 rfl fun hB11 => ?_
      refine aG ?_
      refine aY (t := decide (i10 < (r5.1.length : Int))) rfl hc14 ?_
      refine bh ?_
      obtain ⟨q41, hv, h⟩ := ay h
      refine mW (fun (qq : (List ((A8 Int) × Bool))) => ⟨tab [(2, cn a0), (3, .d (.cptr (some 8) (eA8 (D.int .u16) a1) 0)), (5, .ptr 0 0 0), (7, .d (eL none (eL (some 8) (eA8 (D.int .u16))) r5.1)), (9, .mref 1), (48, .d (eL none (eL (some 8) (eA8 (D.int .u16))) r5.1)), (49, vi (r5.1.length : Int)), (50, vi i10)], ac [(0, .var [vi r3.1.Op, vi r3.1.F, vh r3.1.N, ax r3.1.Kids]), (1, .mp (eM (eA8 (D.int .u16)) D.bool qq))], 2⟩) (xv := q41) (r := xr15) ?_ ?_ ?_
      ·
       replace h := hv
       refine bG ?_
       obtain ⟨x16, hx16, h⟩ := ay h
       refine am ⟨tab [(2, cn a0), (3, .d (.cptr (some 8) (eA8 (D.int .u16) a1) 0)), (5, .ptr 0 0 0), (7, .d (eL none (eL (some 8) (eA8 (D.int .u16))) r5.1)), (9, .mref 1), (10, vi i10), (11, .d (eL (some 8) (eA8 (D.int .u16)) x16)), (48, .d (eL none (eL (some 8) (eA8 (D.int .u16))) r5.1)), (49, vi (r5.1.length : Int)), (50, vi i10)], ac [(0, .var [vi r3.1.Op, vi r3.1.F, vh r3.1.N, ax r3.1.Kids]), (1, .mp (eM (eA8 (D.int .u16)) D.bool m9))], 2⟩ ?_ ?_
       ·
        refine q1 _ ?_
        refine step (v := .d (.cptr none (eL (some 8) (eA8 (D.int .u16)) x16) 0)) (cl (xs := r5.1) (e := (eL (some 8) (eA8 (D.int .u16)))) hx16 rfl rfl) ?_
        iterate 3 refine q1 _ ?_
        exact nR [0, 1]
       refine aG ?_
       obtain ⟨y25, hv, h⟩ := ay h
       refine am ⟨tab [(2, cn a0), (3, .d (.cptr (some 8) (eA8 (D.int .u16) a1) 0)), (5, .ptr 0 0 0), (7, .d (eL none (eL (some 8) (eA8 (D.int .u16))) r5.1)), (9, .mref 1), (11, .d (eL (some 8) (eA8 (D.int .u16)) x16)), (48, .d (eL none (eL (some 8) (eA8 (D.int .u16))) r5.1)), (49, vi (r5.1.length : Int)), (50, vi i10), (88, vb y25)], ac [(0, .var [vi r3.1.Op, vi r3.1.F, vh r3.1.N, ax r3.1.Kids]), (1, .mp (eM (eA8 (D.int .u16)) D.bool m9))], 2⟩ ?_ ?_
       ·
        refine q1 _ ?_
        refine step (v := vi (x16.length : Int)) (bF (xs := x16) (e := (eA8 (D.int .u16))) rfl) ?_
        iterate 2 refine q1 _ ?_
        by_cases hg17 : ((x16.length : Int) == 0) = true
        ·
         replace hv := aO hg17 hv
         iterate 5 refine qX ((x16.length : Int) == 0) (by rw [hg17]; decide) ?_
         refine step (v := vb true) (bw (b := ((x16.length : Int) == 0)) rfl hg17 rfl) ?_
         refine q1 _ ?_
         iterate 8 refine qX true (by decide) ?_
         refine step (v := vb true) (bw (b := true) rfl rfl rfl) ?_
         refine q1 _ ?_
         iterate 3 refine qX true (by decide) ?_
         refine bZ rfl ?_
         refine bZ rfl ?_
         refine bZ rfl ?_
         refine bZ rfl ?_
         refine bZ rfl ?_
         refine bZ rfl ?_
         refine bZ rfl ?_
         refine bZ rfl ?_
         refine qX true (by decide) ?_
         refine step (v := vb true) (bw (b := true) rfl rfl rfl) ?_
         have hh := aq hv
         subst hh
         exact nR [0, 1]
        ·
         replace hv := aP hg17 hv
         obtain ⟨x18, hx18, hv⟩ := ay hv
         refine qG ((x16.length : Int) == 0) (Bool.eq_false_iff.2 hg17) ?_
         refine q1 _ ?_
         refine qG ((x16.length : Int) == 0) (Bool.eq_false_iff.2 hg17) ?_
         refine step (v := .d (.cptr (some 8) (eA8 (D.int .u16) x18) 0)) (cl (xs := x16) (e := (eA8 (D.int .u16))) hx18 rfl rfl) ?_
         refine qG ((x16.length : Int) == 0) (Bool.eq_false_iff.2 hg17) ?_
         refine q1 _ ?_
         refine qG ((x16.length : Int) == 0) (Bool.eq_false_iff.2 hg17) ?_
         refine q1 _ ?_
         refine qG ((x16.length : Int) == 0) (Bool.eq_false_iff.2 hg17) ?_
         refine step (v := vb (!(x18 == a1))) (f4 (neg := true) rfl rfl (ju x18 a1)) ?_
         refine step (v := vb (!(x18 == a1))) (bp (b := ((x16.length : Int) == 0)) rfl hg17 rfl) ?_
         refine q1 _ ?_
         by_cases hg19 : (!(x18 == a1)) = true
         ·
          replace hv := aO hg19 hv
          iterate 8 refine qX (!(x18 == a1)) (by rw [hg19]; decide) ?_
          refine step (v := vb true) (bw (b := (!(x18 == a1))) rfl hg19 rfl) ?_
          refine q1 _ ?_
          iterate 3 refine qX true (by decide) ?_
          refine bZ rfl ?_
          refine bZ rfl ?_
          refine bZ rfl ?_
          refine bZ rfl ?_
          refine bZ rfl ?_
          refine bZ rfl ?_
          refine bZ rfl ?_
          refine bZ rfl ?_
          refine qX true (by decide) ?_
          refine step (v := vb true) (bw (b := true) rfl rfl rfl) ?_
          have hh := aq hv
          subst hh
          exact nR [0, 1]
         ·
          replace hv := aP hg19 hv
          obtain ⟨r20, hr20, hv⟩ := ay hv
          refine qG (!(x18 == a1)) (Bool.eq_false_iff.2 hg19) ?_
          refine q1 _ ?_
          refine qG (!(x18 == a1)) (Bool.eq_false_iff.2 hg19) ?_
          refine q1 _ ?_
          refine qG (!(x18 == a1)) (Bool.eq_false_iff.2 hg19) ?_
          refine step (v := vs1 r3.1) (cb (ds := [.int .i64 r3.1.Op, .int .i64 r3.1.F, .int .u16 r3.1.N, eL (some 4) aN r3.1.Kids]) rfl rfl (show 4 ≤ 4 by decide) rfl) ?_
          refine qG (!(x18 == a1)) (Bool.eq_false_iff.2 hg19) ?_
          refine q1 _ ?_
          refine qG (!(x18 == a1)) (Bool.eq_false_iff.2 hg19) ?_
          refine q1 _ ?_
          refine qG (!(x18 == a1)) (Bool.eq_false_iff.2 hg19) ?_
          refine q1 _ ?_
          refine qG (!(x18 == a1)) (Bool.eq_false_iff.2 hg19) ?_
          refine bC (r := .bool r20) (aF (aF (aF (aF aQ.nil')))) (oL hr20) ?_
          refine qG (!(x18 == a1)) (Bool.eq_false_iff.2 hg19) ?_
          refine q1 _ ?_
          refine step (v := vb (!r20)) (bp (b := (!(x18 == a1))) rfl hg19 rfl) ?_
          refine q1 _ ?_
          by_cases hg21 : (!r20) = true
          ·
           replace hv := aO hg21 hv
           iterate 3 refine qX (!r20) (by rw [hg21]; decide) ?_
           refine bZ rfl ?_
           refine bZ rfl ?_
           refine bZ rfl ?_
           refine bZ rfl ?_
           refine bZ rfl ?_
           refine bZ rfl ?_
           refine bZ rfl ?_
           refine bZ rfl ?_
           refine qX (!r20) (by rw [hg21]; decide) ?_
           refine step (v := vb true) (bw (b := (!r20)) rfl hg21 rfl) ?_
           have hh := aq hv
           subst hh
           exact nR [0, 1]
          ·
           replace hv := aP hg21 hv
           refine qG (!r20) (Bool.eq_false_iff.2 hg21) ?_
           refine q1 _ ?_
           refine qG (!r20) (Bool.eq_false_iff.2 hg21) ?_
           refine q1 _ ?_
           refine qG (!r20) (Bool.eq_false_iff.2 hg21) ?_
           refine q1 _ ?_
           by_cases hg22 : decide (i10 > 0) = true
           ·
            replace hv := aO hg22 hv
            obtain ⟨x23, hx23, hv⟩ := ay hv
            obtain ⟨r24, hr24, hv⟩ := ay hv
            refine qG _ hg22 ?_
            refine q1 _ ?_
            refine qG _ hg22 ?_
            refine q1 _ ?_
            refine qG _ hg22 ?_
            refine q1 _ ?_
            refine qG _ hg22 ?_
            refine step (v := .d (.cptr none (eL (some 8) (eA8 (D.int .u16)) x23) 0)) (cl (xs := r5.1) (e := (eL (some 8) (eA8 (D.int .u16)))) hx23 rfl rfl) ?_
            refine qG _ hg22 ?_
            refine q1 _ ?_
            refine qG _ hg22 ?_
            refine q1 _ ?_
            refine qG _ hg22 ?_
            refine bC (r := .bool r24) (aF (aF aQ.nil')) (Ao hr24) ?_
            refine qG _ hg22 ?_
            refine q1 _ ?_
            refine qG (!r20) (Bool.eq_false_iff.2 hg21) ?_
            refine step (v := vb (!r24)) (bw (b := decide (i10 > 0)) rfl hg22 rfl) ?_
            refine step (v := vb (!r24)) (bp (b := (!r20)) rfl hg21 rfl) ?_
            have hh := aq hv
            subst hh
            exact nR [0, 1]
           ·
            replace hv := aP hg22 hv
            iterate 8 refine qX _ hg22 ?_
            refine qG (!r20) (Bool.eq_false_iff.2 hg21) ?_
            refine step (v := vb false) (bp (b := decide (i10 > 0)) rfl hg22 rfl) ?_
            refine step (v := vb false) (bp (b := (!r20)) rfl hg21 rfl) ?_
            have hh := aq hv
            subst hh
            exact nR [0, 1]
       by_cases hc27 : y25 = true
       ·
        replace h := aO hc27 h
        refine aY (t := y25) rfl hc27 ?_
        refine am ⟨tab [(4, vb false)], ac [], 0⟩ ?_ ?_
        ·
         refine q1 _ ?_
         exact nR []
        obtain ⟨r28, kr28, hr⟩ := cq (o := some (Br.ret false)) (g := Sum.inr) h
        subst hr
        have h := kr28
        obtain ⟨r29, kr29, hr⟩ := cq (o := some false) (g := Br.ret) h
        subst hr
        have h := kr29
        have hh := aq h
        subst hh
        refine aV ?_
        refine And.intro (fun hn => nomatch hn) ?_
        intro hq
        have hq := hq.symm
        subst hq
        refine And.intro (fun hn => nomatch hn) ?_
        intro hq
        have hq := hq.symm
        subst hq
        show FQ _ _ _ _
        exact br (.inr rfl) (bg (v := vb false) rfl rfl) (RV.d trivial)
       ·
        replace h := aP hc27 h
        refine aW (t := y25) rfl hc27 ?_
        refine bh ?_
        refine aG ?_
        refine am ⟨tab [(2, cn a0), (3, .d (.cptr (some 8) (eA8 (D.int .u16) a1) 0)), (5, .ptr 0 0 0), (7, .d (eL none (eL (some 8) (eA8 (D.int .u16))) r5.1)), (9, .mref 1), (11, .d (eL (some 8) (eA8 (D.int .u16)) x16)), (48, .d (eL none (eL (some 8) (eA8 (D.int .u16))) r5.1)), (49, vi (r5.1.length : Int)), (50, vi i10), (90, vi (x16.length : Int)), (91, vi 0)], ac [(0, .var [vi r3.1.Op, vi r3.1.F, vh r3.1.N, ax r3.1.Kids]), (1, .mp (eM (eA8 (D.int .u16)) D.bool m9))], 2⟩ ?_ ?_
        ·
         refine q1 _ ?_
         refine step (v := vi (x16.length : Int)) (bF (xs := x16) (e := (eA8 (D.int .u16))) rfl) ?_
         refine q1 _ ?_
         exact nR [0, 1]
        obtain ⟨q39, hl, h⟩ := ay h
        refine bG ?_
        refine dp (cQ (x16.length : Int)) (fun (i28 : Int) (qq : Unit) => ⟨tab [(2, cn a0), (3, .d (.cptr (some 8) (eA8 (D.int .u16) a1) 0)), (5, .ptr 0 0 0), (7, .d (eL none (eL (some 8) (eA8 (D.int .u16))) r5.1)), (9, .mref 1), (11, .d (eL (some 8) (eA8 (D.int .u16)) x16)), (48, .d (eL none (eL (some 8) (eA8 (D.int .u16))) r5.1)), (49, vi (r5.1.length : Int)), (50, vi i10), (90, vi (x16.length : Int)), (91, vi i28)], ac [(0, .var [vi r3.1.Op, vi r3.1.F, vh r3.1.N, ax r3.1.Kids]), (1, .mp (eM (eA8 (D.int .u16)) D.bool m9))], 2⟩) 2 (fun (qq : Unit) => ⟨tab [(2, cn a0), (3, .d (.cptr (some 8) (eA8 (D.int .u16) a1) 0)), (5, .ptr 0 0 0), (7, .d (eL none (eL (some 8) (eA8 (D.int .u16))) r5.1)), (9, .mref 1), (11, .d (eL (some 8) (eA8 (D.int .u16)) x16)), (48, .d (eL none (eL (some 8) (eA8 (D.int .u16))) r5.1)), (49, vi (r5.1.length : Int)), (50, vi i10)], ac [(0, .var [vi r3.1.Op, vi r3.1.F, vh r3.1.N, ax r3.1.Kids]), (1, .mp (eM (eA8 (D.int .u16)) D.bool m9))], 2⟩) bK cR (r := q41) hl (by unfold bK; omega) ?_ ?_ ?_ ?_
        ·
         rintro i28 ⟨⟩ xr33 hinv31 hgo30 h
         show aI _ _ _ _ _ ⟨tab [(2, cn a0), (3, .d (.cptr (some 8) (eA8 (D.int .u16) a1) 0)), (5, .ptr 0 0 0), (7, .d (eL none (eL (some 8) (eA8 (D.int .u16))) r5.1)), (9, .mref 1), (11, .d (eL (some 8) (eA8 (D.int .u16)) x16)), (48, .d (eL none (eL (some 8) (eA8 (D.int .u16))) r5.1)), (49, vi (r5.1.length : Int)), (50, vi i10), (90, vi (x16.length : Int)), (91, vi i28)], ac [(0, .var [vi r3.1.Op, vi r3.1.F, vh r3.1.N, ax r3.1.Kids]), (1, .mp (eM (eA8 (D.int .u16)) D.bool m9))], 2⟩
         have hc32 : decide (i28 < (x16.length : Int)) = true := decide_eq_true hgo30
         refine am ⟨tab [(2, cn a0), (3, .d (.cptr (some 8) (eA8 (D.int .u16) a1) 0)), (5, .ptr 0 0 0), (7, .d (eL none (eL (some 8) (eA8 (D.int .u16))) r5.1)), (9, .mref 1), (11, .d (eL (some 8) (eA8 (D.int .u16)) x16)), (48, .d (eL none (eL (some 8) (eA8 (D.int .u16))) r5.1)), (49, vi (r5.1.length : Int)), (50, vi i10), (90, vi (x16.length : Int)), (91, vi i28), (92, vb (decide (i28 < (x16.length : Int))))], ac [(0, .var [vi r3.1.Op, vi r3.1.F, vh r3.1.N, ax r3.1.Kids]), (1, .mp (eM (eA8 (D.int .u16)) D.bool m9))], 2⟩ ?_ ?_
         ·
          refine q1 _ ?_
          exact nR [0, 1]
         refine c8 90 rfl fun hB29 => ?_
         refine aG ?_
         refine aY (t := decide (i28 < (x16.length : Int))) rfl hc32 ?_
         refine bh ?_
         refine aG ?_
         refine bG ?_
         refine am ⟨tab [(2, cn a0), (3, .d (.cptr (some 8) (eA8 (D.int .u16) a1) 0)), (5, .ptr 0 0 0), (7, .d (eL none (eL (some 8) (eA8 (D.int .u16))) r5.1)), (9, .mref 1), (11, .d (eL (some 8) (eA8 (D.int .u16)) x16)), (12, vi i28), (48, .d (eL none (eL (some 8) (eA8 (D.int .u16))) r5.1)), (49, vi (r5.1.length : Int)), (50, vi i10), (90, vi (x16.length : Int)), (91, vi i28)], ac [(0, .var [vi r3.1.Op, vi r3.1.F, vh r3.1.N, ax r3.1.Kids]), (1, .mp (eM (eA8 (D.int .u16)) D.bool m9))], 2⟩ ?_ ?_
         ·
          iterate 2 refine q1 _ ?_
          exact nR [0, 1]
         obtain ⟨l34, hl34, h⟩ := ay h
         obtain ⟨r35, hr35, h⟩ := ay h
         refine am ⟨tab [(2, cn a0), (3, .d (.cptr (some 8) (eA8 (D.int .u16) a1) 0)), (5, .ptr 0 0 0), (7, .d (eL none (eL (some 8) (eA8 (D.int .u16))) r5.1)), (9, .mref 1), (11, .d (eL (some 8) (eA8 (D.int .u16)) x16)), (48, .d (eL none (eL (some 8) (eA8 (D.int .u16))) r5.1)), (49, vi (r5.1.length : Int)), (50, vi i10), (90, vi (x16.length : Int)), (91, vi i28), (104, vb (!r35))], ac [(0, .var [vi r3.1.Op, vi r3.1.F, vh r3.1.N, ax r3.1.Kids]), (1, .mp (eM (eA8 (D.int .u16)) D.bool m9))], 2⟩ ?_ ?_
         ·
          iterate 2 refine q1 _ ?_
          refine step (v := vs1 r3.1) (cb (ds := [.int .i64 r3.1.Op, .int .i64 r3.1.F, .int .u16 r3.1.N, eL (some 4) aN r3.1.Kids]) rfl rfl (show 4 ≤ 4 by decide) rfl) ?_
          iterate 4 refine q1 _ ?_
          refine step (v := vi (i28 + 1)) (cL (cM hinv31 hgo30 hB29) rfl rfl) ?_
          refine step (v := .d (eL (some 8) (eA8 (D.int .u16)) l34)) (qz (xs := x16) (e := (eA8 (D.int .u16))) hl34 rfl rfl ⟨_, rfl⟩) ?_
          refine bC (r := .bool r35) (aF (aF (aF (aF aQ.nil')))) (oK hr35) ?_
          refine q1 _ ?_
          exact nR [0, 1]
         by_cases hc36 : (!r35) = true
         ·
          replace h := aO hc36 h
          refine aY (t := (!r35)) rfl hc36 ?_
          refine am ⟨tab [(4, vb false)], ac [], 0⟩ ?_ ?_
          ·
           refine q1 _ ?_
           exact nR []
          obtain ⟨r37, kr37, hr⟩ := cq (o := some (Sum.inr (Br.ret false))) (g := Br.ret) h
          subst hr
          have h := kr37
          obtain ⟨r38, kr38, hr⟩ := cq (o := some (Br.ret false)) (g := Sum.inr) h
          subst hr
          have h := kr38
          obtain ⟨r39, kr39, hr⟩ := cq (o := some false) (g := Br.ret) h
          subst hr
          have h := kr39
          have hh := aq h
          subst hh
          refine aV ?_
          refine And.intro (fun hn => nomatch hn) ?_
          intro hq
          have hq := hq.symm
          subst hq
          refine And.intro (fun hn => nomatch hn) ?_
          intro hq
          have hq := hq.symm
          subst hq
          refine And.intro (fun hn => nomatch hn) ?_
          intro hq
          have hq := hq.symm
          subst hq
          show FQ _ _ _ _
          exact br (.inr rfl) (bg (v := vb false) rfl rfl) (RV.d trivial)
         ·
          replace h := aP hc36 h
          refine aW (t := (!r35)) rfl hc36 ?_
          refine bh ?_
          have hh := aq h
          subst hh
          refine bU ⟨tab [(2, cn a0), (3, .d (.cptr (some 8) (eA8 (D.int .u16) a1) 0)), (5, .ptr 0 0 0), (7, .d (eL none (eL (some 8) (eA8 (D.int .u16))) r5.1)), (9, .mref 1), (11, .d (eL (some 8) (eA8 (D.int .u16)) x16)), (48, .d (eL none (eL (some 8) (eA8 (D.int .u16))) r5.1)), (49, vi (r5.1.length : Int)), (50, vi i10), (90, vi (x16.length : Int)), (91, vi (i28 + 1))], ac [(0, .var [vi r3.1.Op, vi r3.1.F, vh r3.1.N, ax r3.1.Kids]), (1, .mp (eM (eA8 (D.int .u16)) D.bool m9))], 2⟩ ?_ ?_
          ·
           refine step (v := vi (i28 + 1)) (cL (cM hinv31 hgo30 hB29) rfl rfl) ?_
           refine q1 _ ?_
           exact nR [0, 1]
          exact And.intro rfl rfl
        ·
         rintro i28 ⟨⟩ hinv31 hgo30
         show aI _ _ _ _ _ ⟨tab [(2, cn a0), (3, .d (.cptr (some 8) (eA8 (D.int .u16) a1) 0)), (5, .ptr 0 0 0), (7, .d (eL none (eL (some 8) (eA8 (D.int .u16))) r5.1)), (9, .mref 1), (11, .d (eL (some 8) (eA8 (D.int .u16)) x16)), (48, .d (eL none (eL (some 8) (eA8 (D.int .u16))) r5.1)), (49, vi (r5.1.length : Int)), (50, vi i10), (90, vi (x16.length : Int)), (91, vi i28)], ac [(0, .var [vi r3.1.Op, vi r3.1.F, vh r3.1.N, ax r3.1.Kids]), (1, .mp (eM (eA8 (D.int .u16)) D.bool m9))], 2⟩
         have hc32 : ¬ (decide (i28 < (x16.length : Int)) = true) := fun hq => hgo30 (of_decide_eq_true hq)
         refine am ⟨tab [(2, cn a0), (3, .d (.cptr (some 8) (eA8 (D.int .u16) a1) 0)), (5, .ptr 0 0 0), (7, .d (eL none (eL (some 8) (eA8 (D.int .u16))) r5.1)), (9, .mref 1), (11, .d (eL (some 8) (eA8 (D.int .u16)) x16)), (48, .d (eL none (eL (some 8) (eA8 (D.int .u16))) r5.1)), (49, vi (r5.1.length : Int)), (50, vi i10), (90, vi (x16.length : Int)), (91, vi i28), (92, vb (decide (i28 < (x16.length : Int))))], ac [(0, .var [vi r3.1.Op, vi r3.1.F, vh r3.1.N, ax r3.1.Kids]), (1, .mp (eM (eA8 (D.int .u16)) D.bool m9))], 2⟩ ?_ ?_
         ·
          refine q1 _ ?_
          exact nR [0, 1]
         refine aG ?_
         refine aW (t := decide (i28 < (x16.length : Int))) rfl hc32 ?_
         refine bb (s0 := ⟨tab [(2, cn a0), (3, .d (.cptr (some 8) (eA8 (D.int .u16) a1) 0)), (5, .ptr 0 0 0), (7, .d (eL none (eL (some 8) (eA8 (D.int .u16))) r5.1)), (9, .mref 1), (11, .d (eL (some 8) (eA8 (D.int .u16)) x16)), (48, .d (eL none (eL (some 8) (eA8 (D.int .u16))) r5.1)), (49, vi (r5.1.length : Int)), (50, vi i10)], ac [(0, .var [vi r3.1.Op, vi r3.1.F, vh r3.1.N, ax r3.1.Kids]), (1, .mp (eM (eA8 (D.int .u16)) D.bool m9))], 2⟩) (nr [0, 1]) ?_
         refine cI ?_
         exact And.intro rfl rfl
        ·
         intro r' hq
         subst hq
         exact aq h
        rintro ⟨⟩ rfl
        refine am ⟨tab [(2, cn a0), (3, .d (.cptr (some 8) (eA8 (D.int .u16) a1) 0)), (5, .ptr 0 0 0), (7, .d (eL none (eL (some 8) (eA8 (D.int .u16))) r5.1)), (9, .mref 1), (11, .d (eL (some 8) (eA8 (D.int .u16)) x16)), (48, .d (eL none (eL (some 8) (eA8 (D.int .u16))) r5.1)), (49, vi (r5.1.length : Int)), (50, vi i10), (108, vb (decide ((x16.length : Int) > 1)))], ac [(0, .var [vi r3.1.Op, vi r3.1.F, vh r3.1.N, ax r3.1.Kids]), (1, .mp (eM (eA8 (D.int .u16)) D.bool m9))], 2⟩ ?_ ?_
        ·
         refine q1 _ ?_
         refine step (v := vi (x16.length : Int)) (bF (xs := x16) (e := (eA8 (D.int .u16))) rfl) ?_
         refine q1 _ ?_
         exact nR [0, 1]
        by_cases hc37 : decide ((x16.length : Int) > 1) = true
        ·
         replace h := aO hc37 h
         refine aY (t := decide ((x16.length : Int) > 1)) rfl hc37 ?_
         obtain ⟨x38, hx38, h⟩ := ay h
         have hh := aq h
         subst hh
         refine bU ⟨tab [(2, cn a0), (3, .d (.cptr (some 8) (eA8 (D.int .u16) a1) 0)), (5, .ptr 0 0 0), (7, .d (eL none (eL (some 8) (eA8 (D.int .u16))) r5.1)), (9, .mref 1), (48, .d (eL none (eL (some 8) (eA8 (D.int .u16))) r5.1)), (49, vi (r5.1.length : Int)), (50, vi i10)], ac [(0, .var [vi r3.1.Op, vi r3.1.F, vh r3.1.N, ax r3.1.Kids]), (1, .mp (eM (eA8 (D.int .u16)) D.bool (eO m9 x38 true)))], 2⟩ ?_ ?_
         ·
          iterate 2 refine q1 _ ?_
          refine step (v := .d (.cptr (some 8) (eA8 (D.int .u16) x38) 0)) (cl (xs := x16) (e := (eA8 (D.int .u16))) hx38 rfl rfl) ?_
          refine q1 _ ?_
          refine step (v := V.undef) (σ' := (al (ac [(0, .var [vi r3.1.Op, vi r3.1.F, vh r3.1.N, ax r3.1.Kids]), (1, .mp (eM (eA8 (D.int .u16)) D.bool m9))]) 1 (some (.mp (eM (eA8 (D.int .u16)) D.bool (eO m9 x38 true)))))) (n' := 2) (wK (ev := D.bool) (m := m9) (k := x38) (w := true) (wO .u16) rfl rfl rfl rfl) ?_
          exact nR [0, 1]
         exact And.intro rfl rfl
        ·
         replace h := aP hc37 h
         refine aW (t := decide ((x16.length : Int) > 1)) rfl hc37 ?_
         have hh := aq h
         subst hh
         refine bb (s0 := ⟨tab [(2, cn a0), (3, .d (.cptr (some 8) (eA8 (D.int .u16) a1) 0)), (5, .ptr 0 0 0), (7, .d (eL none (eL (some 8) (eA8 (D.int .u16))) r5.1)), (9, .mref 1), (48, .d (eL none (eL (some 8) (eA8 (D.int .u16))) r5.1)), (49, vi (r5.1.length : Int)), (50, vi i10)], ac [(0, .var [vi r3.1.Op, vi r3.1.F, vh r3.1.N, ax r3.1.Kids]), (1, .mp (eM (eA8 (D.int .u16)) D.bool m9))], 2⟩) (nr [0, 1]) ?_
         refine bh ?_
         exact And.intro rfl rfl
      ·
       intro r' hq
       subst hq
       exact aq h
      rintro m40 rfl
      show aI _ _ _ _ _ ⟨tab [(2, cn a0), (3, .d (.cptr (some 8) (eA8 (D.int .u16) a1) 0)), (5, .ptr 0 0 0), (7, .d (eL none (eL (some 8) (eA8 (D.int .u16))) r5.1)), (9, .mref 1), (48, .d (eL none (eL (some 8) (eA8 (D.int .u16))) r5.1)), (49, vi (r5.1.length : Int)), (50, vi i10)], ac [(0, .var [vi r3.1.Op, vi r3.1.F, vh r3.1.N, ax r3.1.Kids]), (1, .mp (eM (eA8 (D.int .u16)) D.bool m40))], 2⟩
      have hh := aq h
      subst hh
      refine bU ⟨tab [(2, cn a0), (3, .d (.cptr (some 8) (eA8 (D.int .u16) a1) 0)), (5, .ptr 0 0 0), (7, .d (eL none (eL (some 8) (eA8 (D.int .u16))) r5.1)), (9, .mref 1), (48, .d (eL none (eL (some 8) (eA8 (D.int .u16))) r5.1)), (49, vi (r5.1.length : Int)), (50, vi (i10 + 1))], ac [(0, .var [vi r3.1.Op, vi r3.1.F, vh r3.1.N, ax r3.1.Kids]), (1, .mp (eM (eA8 (D.int .u16)) D.bool m40))], 2⟩ ?_ ?_
      ·
       refine step (v := vi (i10 + 1)) (cL (cM hinv13 hgo12 hB11) rfl rfl) ?_
       refine q1 _ ?_
       exact nR [0, 1]
      exact And.intro rfl rfl
     ·
      rintro i10 m9 hinv13 hgo12
      show aI _ _ _ _ _ ⟨tab [(2, cn a0), (3, .d (.cptr (some 8) (eA8 (D.int .u16) a1) 0)), (5, .ptr 0 0 0), (7, .d (eL none (eL (some 8) (eA8 (D.int .u16))) r5.1)), (9, .mref 1), (48, .d (eL none (eL (some 8) (eA8 (D.int .u16))) r5.1)), (49, vi (r5.1.length : Int)), (50, vi i10)], ac [(0, .var [vi r3.1.Op, vi r3.1.F, vh r3.1.N, ax r3.1.Kids]), (1, .mp (eM (eA8 (D.int .u16)) D.bool m9))], 2⟩
      have hc14 : ¬ (decide (i10 < (r5.1.length : Int)) = true) := fun hq => hgo12 (of_decide_eq_true hq)
      refine am ⟨tab [(2, cn a0), (3, .d (.cptr (some 8) (eA8 (D.int .u16) a1) 0)), (5, .ptr 0 0 0), (7, .d (eL none (eL (some 8) (eA8 (D.int .u16))) r5.1)), (9, .mref 1), (48, .d (eL none (eL (some 8) (eA8 (D.int .u16))) r5.1)), (49, vi (r5.1.length : Int)), (50, vi i10), (51, vb (decide (i10 < (r5.1.length : Int))))], ac [(0, .var [vi r3.1.Op, vi r3.1.F, vh r3.1.N, ax r3.1.Kids]), (1, .mp (eM (eA8 (D.int .u16)) D.bool m9))], 2⟩ ?_ ?_
      ·
       refine q1 _ ?_
       exact nR [0, 1]
      refine aG ?_
      refine aW (t := decide (i10 < (r5.1.length : Int))) rfl hc14 ?_
      refine bb (s0 := ⟨tab [(2, cn a0), (3, .d (.cptr (some 8) (eA8 (D.int .u16) a1) 0)), (5, .ptr 0 0 0), (9, .mref 1)], ac [(0, .var [vi r3.1.Op, vi r3.1.F, vh r3.1.N, ax r3.1.Kids]), (1, .mp (eM (eA8 (D.int .u16)) D.bool m9))], 2⟩) (nr [0, 1]) ?_
      refine cI ?_
      exact And.intro rfl rfl
     ·
      intro r' hq
      subst hq
      exact aq h
     rintro z42 rfl
     obtain ⟨r43, hr43, h⟩ := ay h
     refine am ⟨tab [(9, .mref 0), (13, .d (eL (some 8) (eA8 (D.int .u16)) r43.1))], ac [(0, .mp (eM (eA8 (D.int .u16)) D.bool z42))], 1⟩ ?_ ?_
     ·
      refine step (v := vs1 r3.1) (cb (ds := [.int .i64 r3.1.Op, .int .i64 r3.1.F, .int .u16 r3.1.N, eL (some 4) aN r3.1.Kids]) rfl rfl (show 4 ≤ 4 by decide) rfl) ?_
      iterate 3 refine q1 _ ?_
      refine bC (r := .tup [eL (some 8) (eA8 (D.int .u16)) r43.1, .int .i64 r43.2]) (aF (aF (aF aQ.nil'))) (mc hr43) ?_
      iterate 5 refine q1 _ ?_
      exact nR [1]
     obtain ⟨n44, hn44, h⟩ := ay h
     refine am ⟨tab [(4, vb (n44 == (r43.1.length : Int)))], ac [], 0⟩ ?_ ?_
     ·
      refine q1 _ ?_
      refine step (v := vi n44) (im (wL rfl rfl (sp hn44).1) (by rw [(sp hn44).2])) ?_
      refine q1 _ ?_
      refine step (v := vi (r43.1.length : Int)) (bF (xs := r43.1) (e := (eA8 (D.int .u16))) rfl) ?_
      iterate 2 refine q1 _ ?_
      exact nR []
     have hh := aq h
     subst hh
     refine aV ?_
     show FQ _ _ _ _
     exact br (.inr rfl) (bg (v := vb (n44 == (r43.1.length : Int))) rfl rfl) (RV.d trivial)
end Go.AM
