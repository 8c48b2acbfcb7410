import Derived.Test.YtnnkfanmokeiaaaWeW1
set_option linter.unusedVariables false
set_option linter.unusedSimpArgs false
namespace Go.AM
open Go Go.RowKit Go.Proofs
attribute [local irreducible] bh bX
set_option maxHeartbeats 2000000
theorem uT {a0 : api_Topo} {a1 : am} {a2 : (List Int)} {a3 : (A8 Int)} {r : ((List (List (A8 Int))) × Int)} (h : nn a0 a1 a2 a3 = some r) : PCall Try.prog 40 [eapi_Topo a0, bY a1, eL none (D.int .u16) a2, eA8 (D.int .u16) a3] (.tup [eL none (eL (some 8) (eA8 (D.int .u16))) r.1, .int .i64 r.2]) := by
 refine PCall.introN tF (show 4 ≤ 27 by decide) ?_
 refine aX (s0 := ⟨tab [(0, c7 a0), (1, cg a1), (2, aq a2), (3, .d (eA8 (D.int .u16) a3))], ac [], 0⟩) (nr []) ?_
 refine al ⟨tab [(2, aq a2), (4, aZ a0), (5, bf a1), (7, .d (.cptr (some 8) (eA8 (D.int .u16) a3) 0))], ac [], 0⟩ ?_ ?_
 ·
  iterate 5 refine q1 _ ?_
  exact nR []
 refine al ⟨tab [(7, .d (.cptr (some 8) (eA8 (D.int .u16) a3) 0)), (10, .ptr 0 0 0)], ac [(0, .var [aq a0.Switches, aW a0.Links, aG a0.Hosts, vi a1.Op, vi a1.F, vh a1.N, aC a1.Kids, aq a2, .loc 1 0 (([] : List (List (A8 Int))).length)]), (1, .lst false none (List.map (eL (some 8) (eA8 (D.int .u16))) ([] : List (List (A8 Int)))))], 2⟩ ?_ ?_
 ·
  iterate 3 refine q1 _ ?_
  refine step (v := .d (.agg [eL none (D.int .u16) a0.Switches, eL (some 4) (b9 eapi_Port) a0.Links, eL (some 2) eapi_Port a0.Hosts, .int .i64 a1.Op, .int .i64 a1.F, .int .u16 a1.N, eL (some 4) bQ a1.Kids, eL none (D.int .u16) a2, .nils])) (cO (ds := [eL none (D.int .u16) a0.Switches, eL (some 4) (b9 eapi_Port) a0.Links, eL (some 2) eapi_Port a0.Hosts, .int .i64 a1.Op, .int .i64 a1.F, .int .u16 a1.N, eL (some 4) bQ a1.Kids, eL none (D.int .u16) a2, .nils]) rfl) ?_
  refine step (v := .ptr 0 0 0) (σ' := (ak (ac []) 0 (some (.var [aq a0.Switches, aW a0.Links, aG a0.Hosts, vi a1.Op, vi a1.F, vh a1.N, aC a1.Kids, aq a2, .d (.nils)])))) (n' := 1) rfl ?_
  refine q1 _ ?_
  exact bh.nil' (bK.trans (s2 := ⟨tab [(7, .d (.cptr (some 8) (eA8 (D.int .u16) a3) 0)), (10, .ptr 0 0 0)], ac [(0, .var [aq a0.Switches, aW a0.Links, aG a0.Hosts, vi a1.Op, vi a1.F, vh a1.N, aC a1.Kids, aq a2, .loc 1 0 (([] : List (List (A8 Int))).length)]), (1, .lst false none (List.map (eL (some 8) (eA8 (D.int .u16))) ([] : List (List (A8 Int)))))], 2⟩) (qw 0 8 false none rfl rfl (show 0 ≠ 1 by decide)) (nr [0, 1]))
 refine aF ?_
 obtain ⟨r1, hr1, h⟩ := aw h
 refine al ⟨tab [(10, .ptr 0 0 0), (11, vi r1.1)], ac [(0, .var [aq r1.2.t.Switches, aW r1.2.t.Links, aG r1.2.t.Hosts, vi r1.2.p.Op, vi r1.2.p.F, vh r1.2.p.N, aC r1.2.p.Kids, aq r1.2.state, .loc 1 0 r1.2.found.length]), (1, .lst false none (List.map (eL (some 8) (eA8 (D.int .u16))) r1.2.found))], 2⟩ ?_ ?_
 ·
  iterate 2 refine q1 _ ?_
  refine eB (v := vi r1.1) (σ' := (ak (ak (ak (ak (ac [(0, .var [aq a0.Switches, aW a0.Links, aG a0.Hosts, vi a1.Op, vi a1.F, vh a1.N, aC a1.Kids, aq a2, .loc 1 0 (([] : List (List (A8 Int))).length)]), (1, .lst false none (List.map (eL (some 8) (eA8 (D.int .u16))) ([] : List (List (A8 Int)))))]) 1 none) 0 none) 2 (some (.lst false none (List.map (eL (some 8) (eA8 (D.int .u16))) r1.2.found)))) 0 (some (.var [aq r1.2.t.Switches, aW r1.2.t.Links, aG r1.2.t.Hosts, vi r1.2.p.Op, vi r1.2.p.F, vh r1.2.p.N, aC r1.2.p.Kids, aq r1.2.state, .loc 2 0 r1.2.found.length])))) (n' := 3) (eC [0, 1] (uS hr1) (show 2 ≤ 3 by decide) (by decide) (show ∀ i ∈ [0, 1], i < 2 by decide) (c4 (show 0 < 3 by decide) (c4 (show 2 < 3 by decide) dG)) (aY.c (.pt 0) (aY.c .nl (aY.c (.d _) aY.nil0))) (SN.c (show 0 < 2 by decide) rfl (.vars (aY.c (.d _) (aY.c (.d _) (aY.c (.d _) (aY.c (.d _) (aY.c (.d _) (aY.c (.d _) (aY.c (.d _) (aY.c (.d _) (aY.c (.lc 1) aY.nil0)))))))))) (SN.c (show 1 < 2 by decide) rfl (.lst _ _ _) SN.nil0))) (show 2 ≤ 3 by decide) ?_
  refine q1 _ ?_
  exact nR [0, 2]
 refine al ⟨tab [(10, .ptr 0 0 0), (11, vi r1.1), (21, vb (r1.1 != 0))], ac [(0, .var [aq r1.2.t.Switches, aW r1.2.t.Links, aG r1.2.t.Hosts, vi r1.2.p.Op, vi r1.2.p.F, vh r1.2.p.N, aC r1.2.p.Kids, aq r1.2.state, .loc 1 0 r1.2.found.length]), (1, .lst false none (List.map (eL (some 8) (eA8 (D.int .u16))) r1.2.found))], 2⟩ ?_ ?_
 ·
  iterate 2 refine q1 _ ?_
  exact nR [0, 1]
 by_cases hc2 : (r1.1 != 0) = true
 ·
  replace h := aO hc2 h
  refine aU (t := (r1.1 != 0)) rfl hc2 ?_
  refine al ⟨tab [(8, .d (eL none (eL (some 8) (eA8 (D.int .u16))) ([] : List (List (A8 Int))))), (9, vi r1.1)], ac [], 0⟩ ?_ ?_
  ·
   iterate 3 refine q1 _ ?_
   exact nR []
  have hh := ar h
  subst hh
  refine aN ?_
  show FQ _ _ _ _
  exact dF (.inr rfl) (be (v := .d (eL none (eL (some 8) (eA8 (D.int .u16))) ([] : List (List (A8 Int))))) rfl (be (v := vi r1.1) rfl rfl)) (RV.d (RV.d trivial))
 ·
  replace h := aP hc2 h
  refine aT (t := (r1.1 != 0)) rfl hc2 ?_
  refine bd ?_
  refine al ⟨tab [(8, .loc 0 0 r1.2.found.length), (9, vi 0)], ac [(0, .lst false none (List.map (eL (some 8) (eA8 (D.int .u16))) r1.2.found))], 1⟩ ?_ ?_
  ·
   iterate 6 refine q1 _ ?_
   exact nR [1]
  have hh := ar h
  subst hh
  refine aN ?_
  show FQ _ _ _ _
  exact dF (.inr rfl) (be (v := .loc 0 0 r1.2.found.length) rfl (be (v := vi 0) rfl rfl)) (RV.loc (xs := r1.2.found) (e := (eL (some 8) (eA8 (D.int .u16)))) rfl rfl (RV.d trivial))
theorem uU {a0 : (List (A8 Int))} {a1 : (A8 Int)} {r : Int} (h : np a0 a1 = some r) : PCall Try.prog 95 [eL (some 8) (eA8 (D.int .u16)) a0, eA8 (D.int .u16) a1] (.int .i64 r) := by
 refine PCall.introN tI (show 2 ≤ 19 by decide) ?_
 refine aX (s0 := ⟨tab [(0, .d (eL (some 8) (eA8 (D.int .u16)) a0)), (1, .d (eA8 (D.int .u16) a1))], ac [], 0⟩) (nr []) ?_
 refine al ⟨tab [(0, .d (eL (some 8) (eA8 (D.int .u16)) a0)), (3, .d (.cptr (some 8) (eA8 (D.int .u16) a1) 0))], ac [], 0⟩ ?_ ?_
 ·
  iterate 2 refine q1 _ ?_
  exact nR []
 refine aF ?_
 refine al ⟨tab [(0, .d (eL (some 8) (eA8 (D.int .u16)) a0)), (3, .d (.cptr (some 8) (eA8 (D.int .u16) a1) 0)), (7, vi (a0.length : Int)), (8, vi 0)], ac [], 0⟩ ?_ ?_
 ·
  refine q1 _ ?_
  refine step (v := vi (a0.length : Int)) (bG (xs := a0) (e := (eA8 (D.int .u16))) rfl) ?_
  refine q1 _ ?_
  exact nR []
 obtain ⟨q9, hl, h⟩ := aw h
 refine bz ?_
 refine df (cA (a0.length : Int)) (fun (i1 : Int) (qq : Unit) => ⟨tab [(0, .d (eL (some 8) (eA8 (D.int .u16)) a0)), (3, .d (.cptr (some 8) (eA8 (D.int .u16) a1) 0)), (7, vi (a0.length : Int)), (8, vi i1)], ac [], 0⟩) 0 (fun (qq : Unit) => ⟨tab [], ac [], 0⟩) bF cB (r := r) hl (by unfold bF; omega) ?_ ?_ ?_ ?_
 ·
  rintro i1 ⟨⟩ xr6 hinv4 hgo3 h
  show aK _ _ _ _ _ ⟨tab [(0, .d (eL (some 8) (eA8 (D.int .u16)) a0)), (3, .d (.cptr (some 8) (eA8 (D.int .u16) a1) 0)), (7, vi (a0.length : Int)), (8, vi i1)], ac [], 0⟩
  have hc5 : decide (i1 < (a0.length : Int)) = true := decide_eq_true hgo3
  refine al ⟨tab [(0, .d (eL (some 8) (eA8 (D.int .u16)) a0)), (3, .d (.cptr (some 8) (eA8 (D.int .u16) a1) 0)), (7, vi (a0.length : Int)), (8, vi i1), (9, vb (decide (i1 < (a0.length : Int))))], ac [], 0⟩ ?_ ?_
  ·
   refine q1 _ ?_
   exact nR []
  refine cz 7 rfl fun hB2 => ?_
  refine aF ?_
  refine aU (t := decide (i1 < (a0.length : Int))) rfl hc5 ?_
  refine bd ?_
  refine aF ?_
  refine bz ?_
  refine al ⟨tab [(0, .d (eL (some 8) (eA8 (D.int .u16)) a0)), (3, .d (.cptr (some 8) (eA8 (D.int .u16) a1) 0)), (5, vi i1), (7, vi (a0.length : Int)), (8, vi i1)], ac [], 0⟩ ?_ ?_
  ·
   iterate 2 refine q1 _ ?_
   exact nR []
  obtain ⟨x7, hx7, h⟩ := aw h
  refine al ⟨tab [(0, .d (eL (some 8) (eA8 (D.int .u16)) a0)), (3, .d (.cptr (some 8) (eA8 (D.int .u16) a1) 0)), (5, vi i1), (7, vi (a0.length : Int)), (8, vi i1), (16, vb (a1 == x7))], ac [], 0⟩ ?_ ?_
  ·
   iterate 3 refine q1 _ ?_
   refine step (v := .d (.cptr (some 8) (eA8 (D.int .u16) x7) 0)) (b4 (xs := a0) (e := (eA8 (D.int .u16))) hx7 rfl rfl) ?_
   refine q1 _ ?_
   refine step (v := vb (a1 == x7)) (dD (neg := false) rfl rfl (fS a1 x7)) ?_
   exact nR []
  by_cases hc8 : (a1 == x7) = true
  ·
   replace h := aO hc8 h
   refine aU (t := (a1 == x7)) rfl hc8 ?_
   refine al ⟨tab [(4, vi i1)], ac [], 0⟩ ?_ ?_
   ·
    iterate 2 refine q1 _ ?_
    exact nR []
   obtain ⟨r9, kr9, hr⟩ := co (o := some i1) (g := Br.ret) h
   subst hr
   have h := kr9
   have hh := ar h
   subst hh
   refine aN ?_
   refine And.intro (fun hn => nomatch hn) ?_
   intro hq
   have hq := hq.symm
   subst hq
   show FQ _ _ _ _
   exact bn (.inr rfl) (be (v := vi i1) rfl rfl) (RV.d trivial)
  ·
   replace h := aP hc8 h
   refine aT (t := (a1 == x7)) rfl hc8 ?_
   refine bd ?_
   have hh := ar h
   subst hh
   refine bT ⟨tab [(0, .d (eL (some 8) (eA8 (D.int .u16)) a0)), (3, .d (.cptr (some 8) (eA8 (D.int .u16) a1) 0)), (7, vi (a0.length : Int)), (8, vi (i1 + 1))], ac [], 0⟩ ?_ ?_
   ·
    refine step (v := vi (i1 + 1)) (cC (cD hinv4 hgo3 hB2) rfl rfl) ?_
    refine q1 _ ?_
    exact nR []
   exact And.intro rfl rfl
 ·
  rintro i1 ⟨⟩ hinv4 hgo3
  show aK _ _ _ _ _ ⟨tab [(0, .d (eL (some 8) (eA8 (D.int .u16)) a0)), (3, .d (.cptr (some 8) (eA8 (D.int .u16) a1) 0)), (7, vi (a0.length : Int)), (8, vi i1)], ac [], 0⟩
  have hc5 : ¬ (decide (i1 < (a0.length : Int)) = true) := fun hq => hgo3 (of_decide_eq_true hq)
  refine al ⟨tab [(0, .d (eL (some 8) (eA8 (D.int .u16)) a0)), (3, .d (.cptr (some 8) (eA8 (D.int .u16) a1) 0)), (7, vi (a0.length : Int)), (8, vi i1), (9, vb (decide (i1 < (a0.length : Int))))], ac [], 0⟩ ?_ ?_
  ·
   refine q1 _ ?_
   exact nR []
  refine aF ?_
  refine aT (t := decide (i1 < (a0.length : Int))) rfl hc5 ?_
  refine aX (s0 := ⟨tab [], ac [], 0⟩) (nr []) ?_
  refine cn ?_
  exact And.intro rfl rfl
 ·
  intro r' hq
  subst hq
  exact ar h
 rintro ⟨⟩ rfl
 refine al ⟨tab [(4, vi (-1))], ac [], 0⟩ ?_ ?_
 ·
  refine q1 _ ?_
  exact nR []
 have hh := ar h
 subst hh
 refine aN ?_
 show FQ _ _ _ _
 exact bn (.inr rfl) (be (v := vi (-1)) rfl rfl) (RV.d trivial)
theorem uV {a0 : (List (A8 Int))} {a1 : (A8 Int)} {r : Bool} (h : nq a0 a1 = some r) : PCall Try.prog 70 [eL (some 8) (eA8 (D.int .u16)) a0, eA8 (D.int .u16) a1] (.bool r) := by
 refine PCall.introN tK (show 2 ≤ 9 by decide) ?_
 refine aX (s0 := ⟨tab [(0, .d (eL (some 8) (eA8 (D.int .u16)) a0)), (1, .d (eA8 (D.int .u16) a1))], ac [], 0⟩) (nr []) ?_
 refine al ⟨tab [(0, .d (eL (some 8) (eA8 (D.int .u16)) a0)), (3, .d (.cptr (some 8) (eA8 (D.int .u16) a1) 0))], ac [], 0⟩ ?_ ?_
 ·
  iterate 2 refine q1 _ ?_
  exact nR []
 obtain ⟨r1, hr1, h⟩ := aw h
 refine al ⟨tab [(4, vb (decide (r1 ≥ 0)))], ac [], 0⟩ ?_ ?_
 ·
  iterate 2 refine q1 _ ?_
  refine bx (r := .int .i64 r1) (aI (aI aS.nil')) (uU hr1) ?_
  iterate 2 refine q1 _ ?_
  exact nR []
 have hh := ar h
 subst hh
 refine aN ?_
 show FQ _ _ _ _
 exact bn (.inr rfl) (be (v := vb (decide (r1 ≥ 0))) rfl rfl) (RV.d trivial)
theorem oc {a0 : api_Topo} {a1 : am} {a2 : (List Int)} {a3 : (List (A8 Int))} {r : Bool} (h : ko a0 a1 a2 a3 = some r) : PCall Try.prog 43 [eapi_Topo a0, bY a1, eL none (D.int .u16) a2, eL (some 8) (eA8 (D.int .u16)) a3] (.bool r) := by
 refine PCall.introN tN (show 4 ≤ 69 by decide) ?_
 refine aX (s0 := ⟨tab [(0, c7 a0), (1, cg a1), (2, aq a2), (3, .d (eL (some 8) (eA8 (D.int .u16)) a3))], ac [], 0⟩) (nr []) ?_
 refine al ⟨tab [(2, aq a2), (3, .d (eL (some 8) (eA8 (D.int .u16)) a3)), (4, aZ a0), (5, bf a1)], ac [], 0⟩ ?_ ?_
 ·
  iterate 3 refine q1 _ ?_
  exact nR []
 refine aF ?_
 refine al ⟨tab [(2, aq a2), (3, .d (eL (some 8) (eA8 (D.int .u16)) a3)), (4, aZ a0), (5, bf a1), (9, vi 1)], ac [], 0⟩ ?_ ?_
 ·
  refine q1 _ ?_
  exact nR []
 obtain ⟨q22, hl, h⟩ := aw h
 refine bz ?_
 refine df (cA (a3.length : Int)) (fun (i1 : Int) (qq : Unit) => ⟨tab [(2, aq a2), (3, .d (eL (some 8) (eA8 (D.int .u16)) a3)), (4, aZ a0), (5, bf a1), (9, vi i1)], ac [], 0⟩) 0 (fun (qq : Unit) => ⟨tab [(3, .d (eL (some 8) (eA8 (D.int .u16)) a3))], ac [], 0⟩) bF cB (r := r) hl (by unfold bF; omega) ?_ ?_ ?_ ?_
 ·
  rintro i1 ⟨⟩ xr6 hinv4 hgo3 h
  show aK _ _ _ _ _ ⟨tab [(2, aq a2), (3, .d (eL (some 8) (eA8 (D.int .u16)) a3)), (4, aZ a0), (5, bf a1), (9, vi i1)], ac [], 0⟩
  have hc5 : decide (i1 < (a3.length : Int)) = true := decide_eq_true hgo3
  refine aF ?_
  refine al ⟨tab [(2, aq a2), (3, .d (eL (some 8) (eA8 (D.int .u16)) a3)), (4, aZ a0), (5, bf a1), (9, vi i1), (16, vi (a3.length : Int)), (17, vb (decide (i1 < (a3.length : Int))))], ac [], 0⟩ ?_ ?_
  ·
   iterate 2 refine q1 _ ?_
   refine step (v := vi (a3.length : Int)) (bG (xs := a3) (e := (eA8 (D.int .u16))) rfl) ?_
   refine q1 _ ?_
   exact nR []
  refine cz 16 rfl fun hB2 => ?_
  refine aU (t := decide (i1 < (a3.length : Int))) rfl hc5 ?_
  refine bd ?_
  obtain ⟨q20, hv, h⟩ := aw h
  refine mt (fun (qq : Unit) => ⟨tab [(2, aq a2), (3, .d (eL (some 8) (eA8 (D.int .u16)) a3)), (4, aZ a0), (5, bf a1), (9, vi i1)], ac [], 0⟩) (xv := q20) (r := xr6) ?_ ?_ ?_
  ·
   replace h := hv
   refine bz ?_
   refine aF ?_
   refine al ⟨tab [(2, aq a2), (3, .d (eL (some 8) (eA8 (D.int .u16)) a3)), (4, aZ a0), (5, bf a1), (9, vi i1), (22, vb ((i1.tmod 2) == 0))], ac [], 0⟩ ?_ ?_
   ·
    iterate 3 refine q1 _ ?_
    exact nR []
   by_cases hc7 : ((i1.tmod 2) == 0) = true
   ·
    replace h := aO hc7 h
    refine aU (t := ((i1.tmod 2) == 0)) rfl hc7 ?_
    refine aF ?_
    obtain ⟨x8, hx8, h⟩ := aw h
    obtain ⟨r9, hr9, h⟩ := aw h
    refine al ⟨tab [(2, aq a2), (3, .d (eL (some 8) (eA8 (D.int .u16)) a3)), (4, aZ a0), (5, bf a1), (9, vi i1), (10, .ptr 0 0 0), (11, vi r9.2)], ac [(0, .var [vh r9.1.a0, vh r9.1.a1, vh r9.1.a2, vh r9.1.a3, vh r9.1.a4, vh r9.1.a5, vh r9.1.a6, vh r9.1.a7])], 1⟩ ?_ ?_
    ·
     iterate 4 refine q1 _ ?_
     refine step (v := .d (.cptr (some 8) (eA8 (D.int .u16) x8) 0)) (b4 (xs := a3) (e := (eA8 (D.int .u16))) hx8 rfl rfl) ?_
     refine q1 _ ?_
     refine bx (r := .tup [eA8 (D.int .u16) r9.1, .int .i64 r9.2]) (aI (aI aS.nil')) (hE hr9) ?_
     iterate 3 refine q1 _ ?_
     refine step (v := .ptr 0 0 0) (σ' := (ak (ac []) 0 (some (bR)))) (n' := 1) rfl ?_
     refine step (v := V.undef) (σ' := (ak (ak (ac []) 0 (some (bR))) 0 (some (.var [vh r9.1.a0, vh r9.1.a1, vh r9.1.a2, vh r9.1.a3, vh r9.1.a4, vh r9.1.a5, vh r9.1.a6, vh r9.1.a7])))) (n' := 1) rfl ?_
     refine q1 _ ?_
     exact nR [0]
    obtain ⟨y12, hv, h⟩ := aw h
    refine al ⟨tab [(2, aq a2), (3, .d (eL (some 8) (eA8 (D.int .u16)) a3)), (4, aZ a0), (5, bf a1), (9, vi i1), (42, vb y12)], ac [], 0⟩ ?_ ?_
    ·
     iterate 3 refine q1 _ ?_
     by_cases hg10 : (r9.2 != 0) = true
     ·
      replace hv := aO hg10 hv
      iterate 6 refine qX (r9.2 != 0) (by rw [hg10]; decide) ?_
      refine step (v := vb true) (bD (b := (r9.2 != 0)) rfl hg10 rfl) ?_
      have hh := ar hv
      subst hh
      exact nR []
     ·
      replace hv := aP hg10 hv
      obtain ⟨x11, hx11, hv⟩ := aw hv
      refine qG (r9.2 != 0) (Bool.eq_false_iff.2 hg10) ?_
      refine step (v := .d (eA8 (D.int .u16) r9.1)) (b5 (ds := [.int .u16 r9.1.a0, .int .u16 r9.1.a1, .int .u16 r9.1.a2, .int .u16 r9.1.a3, .int .u16 r9.1.a4, .int .u16 r9.1.a5, .int .u16 r9.1.a6, .int .u16 r9.1.a7]) rfl rfl (show 8 ≤ 8 by decide) rfl) ?_
      refine qG (r9.2 != 0) (Bool.eq_false_iff.2 hg10) ?_
      refine q1 _ ?_
      refine qG (r9.2 != 0) (Bool.eq_false_iff.2 hg10) ?_
      refine q1 _ ?_
      refine qG (r9.2 != 0) (Bool.eq_false_iff.2 hg10) ?_
      refine step (v := .d (.cptr (some 8) (eA8 (D.int .u16) x11) 0)) (b4 (xs := a3) (e := (eA8 (D.int .u16))) hx11 rfl rfl) ?_
      refine qG (r9.2 != 0) (Bool.eq_false_iff.2 hg10) ?_
      refine q1 _ ?_
      refine qG (r9.2 != 0) (Bool.eq_false_iff.2 hg10) ?_
      refine step (v := vb (!(r9.1 == x11))) (dD (neg := true) rfl rfl (fS r9.1 x11)) ?_
      refine step (v := vb (!(r9.1 == x11))) (bu (b := (r9.2 != 0)) rfl hg10 rfl) ?_
      have hh := ar hv
      subst hh
      exact nR []
    by_cases hc14 : y12 = true
    ·
     replace h := aO hc14 h
     refine aU (t := y12) rfl hc14 ?_
     refine al ⟨tab [(8, vb false)], ac [], 0⟩ ?_ ?_
     ·
      refine q1 _ ?_
      exact nR []
     obtain ⟨r15, kr15, hr⟩ := co (o := some (Br.ret false)) (g := Sum.inr) h
     subst hr
     have h := kr15
     obtain ⟨r16, kr16, hr⟩ := co (o := some false) (g := Br.ret) h
     subst hr
     have h := kr16
     have hh := ar h
     subst hh
     refine aN ?_
     refine And.intro (fun hn => nomatch hn) ?_
     intro hq
     have hq := hq.symm
     subst hq
     refine And.intro (fun hn => nomatch hn) ?_
     intro hq
     have hq := hq.symm
     subst hq
     show FQ _ _ _ _
     exact bn (.inr rfl) (be (v := vb false) rfl rfl) (RV.d trivial)
    ·
     replace h := aP hc14 h
     refine aT (t := y12) rfl hc14 ?_
     refine bd ?_
     have hh := ar h
     subst hh
     refine aX (s0 := ⟨tab [(2, aq a2), (3, .d (eL (some 8) (eA8 (D.int .u16)) a3)), (4, aZ a0), (5, bf a1), (9, vi i1)], ac [], 0⟩) (nr []) ?_
     refine cn ?_
     exact And.intro rfl rfl
   ·
    replace h := aP hc7 h
    refine aT (t := ((i1.tmod 2) == 0)) rfl hc7 ?_
    refine bd ?_
    obtain ⟨x15, hx15, h⟩ := aw h
    obtain ⟨r16, hr16, h⟩ := aw h
    refine al ⟨tab [(2, aq a2), (3, .d (eL (some 8) (eA8 (D.int .u16)) a3)), (4, aZ a0), (5, bf a1), (9, vi i1), (12, .d (eL (some 8) (eA8 (D.int .u16)) r16.1))], ac [], 0⟩ ?_ ?_
    ·
     iterate 5 refine q1 _ ?_
     refine step (v := .d (.cptr (some 8) (eA8 (D.int .u16) x15) 0)) (b4 (xs := a3) (e := (eA8 (D.int .u16))) hx15 rfl rfl) ?_
     refine q1 _ ?_
     refine bx (r := .tup [eL (some 8) (eA8 (D.int .u16)) r16.1, .int .i64 r16.2]) (aI (aI (aI aS.nil'))) (kG hr16) ?_
     iterate 5 refine q1 _ ?_
     exact nR []
    obtain ⟨x17, hx17, h⟩ := aw h
    obtain ⟨r18, hr18, h⟩ := aw h
    refine al ⟨tab [(2, aq a2), (3, .d (eL (some 8) (eA8 (D.int .u16)) a3)), (4, aZ a0), (5, bf a1), (9, vi i1), (60, vb (!r18))], ac [], 0⟩ ?_ ?_
    ·
     iterate 3 refine q1 _ ?_
     refine step (v := .d (.cptr (some 8) (eA8 (D.int .u16) x17) 0)) (b4 (xs := a3) (e := (eA8 (D.int .u16))) hx17 rfl rfl) ?_
     refine q1 _ ?_
     refine bx (r := .bool r18) (aI (aI aS.nil')) (uV hr18) ?_
     refine q1 _ ?_
     exact nR []
    by_cases hc19 : (!r18) = true
    ·
     replace h := aO hc19 h
     refine aU (t := (!r18)) rfl hc19 ?_
     refine al ⟨tab [(8, vb false)], ac [], 0⟩ ?_ ?_
     ·
      refine q1 _ ?_
      exact nR []
     obtain ⟨r20, kr20, hr⟩ := co (o := some (Br.ret false)) (g := Sum.inr) h
     subst hr
     have h := kr20
     obtain ⟨r21, kr21, hr⟩ := co (o := some false) (g := Br.ret) h
     subst hr
     have h := kr21
     have hh := ar h
     subst hh
     refine aN ?_
     refine And.intro (fun hn => nomatch hn) ?_
     intro hq
     have hq := hq.symm
     subst hq
     refine And.intro (fun hn => nomatch hn) ?_
     intro hq
     have hq := hq.symm
     subst hq
     show FQ _ _ _ _
     exact bn (.inr rfl) (be (v := vb false) rfl rfl) (RV.d trivial)
    ·
     replace h := aP hc19 h
     refine aT (t := (!r18)) rfl hc19 ?_
     have hh := ar h
     subst hh
     refine aX (s0 := ⟨tab [(2, aq a2), (3, .d (eL (some 8) (eA8 (D.int .u16)) a3)), (4, aZ a0), (5, bf a1), (9, vi i1)], ac [], 0⟩) (nr []) ?_
     refine bd ?_
     exact And.intro rfl rfl
  ·
   intro r' hq
   subst hq
   exact ar h
  rintro ⟨⟩ rfl
  show aK _ _ _ _ _ ⟨tab [(2, aq a2), (3, .d (eL (some 8) (eA8 (D.int .u16)) a3)), (4, aZ a0), (5, bf a1), (9, vi i1)], ac [], 0⟩
  have hh := ar h
  subst hh
  refine bT ⟨tab [(2, aq a2), (3, .d (eL (some 8) (eA8 (D.int .u16)) a3)), (4, aZ a0), (5, bf a1), (9, vi (i1 + 1))], ac [], 0⟩ ?_ ?_
  ·
   refine q1 _ ?_
   refine step (v := vi (i1 + 1)) (cC (cD hinv4 hgo3 hB2) rfl rfl) ?_
   refine q1 _ ?_
   exact nR []
  exact And.intro rfl rfl
 ·
  rintro i1 ⟨⟩ hinv4 hgo3
  show aK _ _ _ _ _ ⟨tab [(2, aq a2), (3, .d (eL (some 8) (eA8 (D.int .u16)) a3)), (4, aZ a0), (5, bf a1), (9, vi i1)], ac [], 0⟩
  have hc5 : ¬ (decide (i1 < (a3.length : Int)) = true) := fun hq => hgo3 (of_decide_eq_true hq)
  refine aF ?_
  refine al ⟨tab [(2, aq a2), (3, .d (eL (some 8) (eA8 (D.int .u16)) a3)), (4, aZ a0), (5, bf a1), (9, vi i1), (17, vb (decide (i1 < (a3.length : Int))))], ac [], 0⟩ ?_ ?_
  ·
   iterate 2 refine q1 _ ?_
   refine step (v := vi (a3.length : Int)) (bG (xs := a3) (e := (eA8 (D.int .u16))) rfl) ?_
   refine q1 _ ?_
   exact nR []
  refine aT (t := decide (i1 < (a3.length : Int))) rfl hc5 ?_
  refine aX (s0 := ⟨tab [(3, .d (eL (some 8) (eA8 (D.int .u16)) a3))], ac [], 0⟩) (nr []) ?_
  refine cn ?_
  exact And.intro rfl rfl
 ·
  intro r' hq
  subst hq
  exact ar h
 rintro ⟨⟩ rfl
 refine al ⟨tab [(8, vb ((decide ((a3.length : Int) > 0)) && (decide ((a3.length : Int) ≤ 24))))], ac [], 0⟩ ?_ ?_
 ·
  refine q1 _ ?_
  refine step (v := vi (a3.length : Int)) (bG (xs := a3) (e := (eA8 (D.int .u16))) rfl) ?_
  iterate 2 refine q1 _ ?_
  by_cases hg21 : decide ((a3.length : Int) > 0) = true
  ·
   refine qG _ hg21 ?_
   refine q1 _ ?_
   refine qG _ hg21 ?_
   refine step (v := vi (a3.length : Int)) (bG (xs := a3) (e := (eA8 (D.int .u16))) rfl) ?_
   refine qG _ hg21 ?_
   refine q1 _ ?_
   refine step (v := vb (decide ((a3.length : Int) ≤ 24))) (bD (b := decide ((a3.length : Int) > 0)) rfl hg21 rfl) ?_
   refine q1 _ ?_
   exact bh.nil' (nm [] ⟨.eq (by first | (simp [hg21]; done) | (simp_all; done) | grind), trivial⟩ trivial)
  ·
   iterate 3 refine qX _ hg21 ?_
   refine step (v := vb false) (bu (b := decide ((a3.length : Int) > 0)) rfl hg21 rfl) ?_
   refine q1 _ ?_
   exact bh.nil' (nm [] ⟨.eq (by first | (simp [hg21]; done) | (simp_all; done) | grind), trivial⟩ trivial)
 have hh := ar h
 subst hh
 refine aN ?_
 show FQ _ _ _ _
 exact bn (.inr rfl) (be (v := vb ((decide ((a3.length : Int) > 0)) && (decide ((a3.length : Int) ≤ 24)))) rfl rfl) (RV.d trivial)
theorem od {a0 : api_Topo} {a1 : am} {a2 : (List Int)} {a3 : (List (A8 Int))} {r : Bool} (h : kq a0 a1 a2 a3 = some r) : PCall Try.prog 41 [eapi_Topo a0, bY a1, eL none (D.int .u16) a2, eL (some 8) (eA8 (D.int .u16)) a3] (.bool r) := by
 refine PCall.introN tP (show 4 ≤ 57 by decide) ?_
 refine aX (s0 := ⟨tab [(0, c7 a0), (1, cg a1), (2, aq a2), (3, .d (eL (some 8) (eA8 (D.int .u16)) a3))], ac [], 0⟩) (nr []) ?_
 refine al ⟨tab [(2, aq a2), (3, .d (eL (some 8) (eA8 (D.int .u16)) a3)), (4, aZ a0), (5, bf a1)], ac [], 0⟩ ?_ ?_
 ·
  iterate 3 refine q1 _ ?_
  exact nR []
 refine aF ?_
 obtain ⟨r1, hr1, h⟩ := aw h
 refine al ⟨tab [(2, aq a2), (3, .d (eL (some 8) (eA8 (D.int .u16)) a3)), (4, aZ a0), (5, bf a1), (19, vb (!r1))], ac [], 0⟩ ?_ ?_
 ·
  iterate 4 refine q1 _ ?_
  refine bx (r := .bool r1) (aI (aI (aI (aI aS.nil')))) (oc hr1) ?_
  refine q1 _ ?_
  exact nR []
 by_cases hc2 : (!r1) = true
 ·
  replace h := aO hc2 h
  refine aU (t := (!r1)) rfl hc2 ?_
  refine al ⟨tab [(8, vb false)], ac [], 0⟩ ?_ ?_
  ·
   refine q1 _ ?_
   exact nR []
  have hh := ar h
  subst hh
  refine aN ?_
  show FQ _ _ _ _
  exact bn (.inr rfl) (be (v := vb false) rfl rfl) (RV.d trivial)
 ·
  replace h := aP hc2 h
  refine aT (t := (!r1)) rfl hc2 ?_
  refine bd ?_
  obtain ⟨x3, hx3, h⟩ := aw h
  refine al ⟨tab [(2, aq a2), (3, .d (eL (some 8) (eA8 (D.int .u16)) a3)), (4, aZ a0), (5, bf a1), (9, .ptr 0 0 0)], ac [(0, .var [vh x3.a0, vh x3.a1, vh x3.a2, vh x3.a3, vh x3.a4, vh x3.a5, vh x3.a6, vh x3.a7])], 1⟩ ?_ ?_
  ·
   iterate 2 refine q1 _ ?_
   refine step (v := vi (a3.length : Int)) (bG (xs := a3) (e := (eA8 (D.int .u16))) rfl) ?_
   refine q1 _ ?_
   refine step (v := .d (.cptr (some 8) (eA8 (D.int .u16) x3) 0)) (b4 (xs := a3) (e := (eA8 (D.int .u16))) hx3 rfl rfl) ?_
   refine q1 _ ?_
   refine step (v := .ptr 0 0 0) (σ' := (ak (ac []) 0 (some (bR)))) (n' := 1) rfl ?_
   refine step (v := V.undef) (σ' := (ak (ak (ac []) 0 (some (bR))) 0 (some (.var [vh x3.a0, vh x3.a1, vh x3.a2, vh x3.a3, vh x3.a4, vh x3.a5, vh x3.a6, vh x3.a7])))) (n' := 1) rfl ?_
   exact nR [0]
  refine aF ?_
  refine al ⟨tab [(2, aq a2), (3, .d (eL (some 8) (eA8 (D.int .u16)) a3)), (4, aZ a0), (5, bf a1), (9, .ptr 0 0 0), (29, vb (((a3.length : Int).tmod 2) == 1))], ac [(0, .var [vh x3.a0, vh x3.a1, vh x3.a2, vh x3.a3, vh x3.a4, vh x3.a5, vh x3.a6, vh x3.a7])], 1⟩ ?_ ?_
  ·
   refine q1 _ ?_
   refine step (v := vi (a3.length : Int)) (bG (xs := a3) (e := (eA8 (D.int .u16))) rfl) ?_
   iterate 2 refine q1 _ ?_
   exact nR [0]
  by_cases hc4 : (((a3.length : Int).tmod 2) == 1) = true
  ·
   replace h := aO hc4 h
   refine aU (t := (((a3.length : Int).tmod 2) == 1)) rfl hc4 ?_
   obtain ⟨r5, hr5, h⟩ := aw h
   refine al ⟨tab [(10, .d (eL (some 8) (eA8 (D.int .u16)) r5.1)), (11, vi r5.2)], ac [], 0⟩ ?_ ?_
   ·
    iterate 2 refine q1 _ ?_
    refine step (v := .d (eA8 (D.int .u16) x3)) (b5 (ds := [.int .u16 x3.a0, .int .u16 x3.a1, .int .u16 x3.a2, .int .u16 x3.a3, .int .u16 x3.a4, .int .u16 x3.a5, .int .u16 x3.a6, .int .u16 x3.a7]) rfl rfl (show 8 ≤ 8 by decide) rfl) ?_
    refine bx (r := .tup [eL (some 8) (eA8 (D.int .u16)) r5.1, .int .i64 r5.2]) (aI (aI (aI aS.nil'))) (kG hr5) ?_
    iterate 5 refine q1 _ ?_
    exact nR []
   refine al ⟨tab [(8, vb ((r5.2 == 0) && ((r5.1.length : Int) == 0)))], ac [], 0⟩ ?_ ?_
   ·
    iterate 3 refine q1 _ ?_
    by_cases hg6 : (r5.2 == 0) = true
    ·
     refine qG _ hg6 ?_
     refine q1 _ ?_
     refine qG _ hg6 ?_
     refine step (v := vi (r5.1.length : Int)) (bG (xs := r5.1) (e := (eA8 (D.int .u16))) rfl) ?_
     refine qG _ hg6 ?_
     refine q1 _ ?_
     refine step (v := vb ((r5.1.length : Int) == 0)) (bD (b := (r5.2 == 0)) rfl hg6 rfl) ?_
     refine q1 _ ?_
     exact bh.nil' (nm [] ⟨.eq (by first | (simp [hg6]; done) | (simp_all; done) | grind), trivial⟩ trivial)
    ·
     iterate 3 refine qX _ hg6 ?_
     refine step (v := vb false) (bu (b := (r5.2 == 0)) rfl hg6 rfl) ?_
     refine q1 _ ?_
     exact bh.nil' (nm [] ⟨.eq (by first | (simp [hg6]; done) | (simp_all; done) | grind), trivial⟩ trivial)
   have hh := ar h
   subst hh
   refine aN ?_
   show FQ _ _ _ _
   exact bn (.inr rfl) (be (v := vb ((r5.2 == 0) && ((r5.1.length : Int) == 0))) rfl rfl) (RV.d trivial)
  ·
   replace h := aP hc4 h
   refine aT (t := (((a3.length : Int).tmod 2) == 1)) rfl hc4 ?_
   refine bd ?_
   obtain ⟨r7, hr7, h⟩ := aw h
   refine al ⟨tab [(3, .d (eL (some 8) (eA8 (D.int .u16)) a3)), (13, vi r7.2)], ac [], 0⟩ ?_ ?_
   ·
    refine q1 _ ?_
    refine step (v := .d (eA8 (D.int .u16) x3)) (b5 (ds := [.int .u16 x3.a0, .int .u16 x3.a1, .int .u16 x3.a2, .int .u16 x3.a3, .int .u16 x3.a4, .int .u16 x3.a5, .int .u16 x3.a6, .int .u16 x3.a7]) rfl rfl (show 8 ≤ 8 by decide) rfl) ?_
    refine bx (r := .tup [eA8 (D.int .u16) r7.1, .int .i64 r7.2]) (aI (aI aS.nil')) (hE hr7) ?_
    iterate 3 refine q1 _ ?_
    refine step (v := .ptr 1 0 0) (σ' := (ak (ac [(0, .var [vh x3.a0, vh x3.a1, vh x3.a2, vh x3.a3, vh x3.a4, vh x3.a5, vh x3.a6, vh x3.a7])]) 1 (some (bR)))) (n' := 2) rfl ?_
    refine step (v := V.undef) (σ' := (ak (ak (ac [(0, .var [vh x3.a0, vh x3.a1, vh x3.a2, vh x3.a3, vh x3.a4, vh x3.a5, vh x3.a6, vh x3.a7])]) 1 (some (bR))) 1 (some (.var [vh r7.1.a0, vh r7.1.a1, vh r7.1.a2, vh r7.1.a3, vh r7.1.a4, vh r7.1.a5, vh r7.1.a6, vh r7.1.a7])))) (n' := 2) rfl ?_
    refine q1 _ ?_
    exact nR []
   refine al ⟨tab [(8, vb ((r7.2 != 0) || ((a3.length : Int) == 24)))], ac [], 0⟩ ?_ ?_
   ·
    iterate 3 refine q1 _ ?_
    by_cases hg8 : (r7.2 != 0) = true
    ·
     iterate 3 refine qX (r7.2 != 0) (by rw [hg8]; decide) ?_
     refine step (v := vb true) (bD (b := (r7.2 != 0)) rfl hg8 rfl) ?_
     refine q1 _ ?_
     exact bh.nil' (nm [] ⟨.eq (by first | (simp [hg8]; done) | (simp_all; done) | grind), trivial⟩ trivial)
    ·
     refine qG (r7.2 != 0) (Bool.eq_false_iff.2 hg8) ?_
     refine q1 _ ?_
     refine qG (r7.2 != 0) (Bool.eq_false_iff.2 hg8) ?_
     refine step (v := vi (a3.length : Int)) (bG (xs := a3) (e := (eA8 (D.int .u16))) rfl) ?_
     refine qG (r7.2 != 0) (Bool.eq_false_iff.2 hg8) ?_
     refine q1 _ ?_
     refine step (v := vb ((a3.length : Int) == 24)) (bu (b := (r7.2 != 0)) rfl hg8 rfl) ?_
     refine q1 _ ?_
     exact bh.nil' (nm [] ⟨.eq (by first | (simp [hg8]; done) | (simp_all; done) | grind), trivial⟩ trivial)
   have hh := ar h
   subst hh
   refine aN ?_
   show FQ _ _ _ _
   exact bn (.inr rfl) (be (v := vb ((r7.2 != 0) || ((a3.length : Int) == 24))) rfl rfl) (RV.d trivial)
theorem uW  {r : Bool} (h : kr  = some r) : PCall Try.prog 38 [] (.bool r) := by
 refine PCall.introN tR (show 0 ≤ 80 by decide) ?_
 refine aX (s0 := ⟨tab [], ac [], 0⟩) (nr []) ?_
 refine al ⟨tab [], ac [], 0⟩ ?_ ?_
 ·
  refine q1 _ ?_
  exact nR []
 refine al ⟨tab [(1, .ptr 0 0 0)], ac [(0, .var [aq ([1, 2] : List Int), aW ([(A2.mk (api_Port.mk 1 2) (api_Port.mk 2 2))] : List (A2 api_Port)), aG ([(api_Port.mk 1 1), (api_Port.mk 2 1)] : List api_Port)])], 1⟩ ?_ ?_
 ·
  refine q1 _ ?_
  refine step (v := cq (api_Port.mk 1 2)) (cO (ds := [.int .u16 1, .int .u16 2]) rfl) ?_
  refine step (v := cq (api_Port.mk 2 2)) (cO (ds := [.int .u16 2, .int .u16 2]) rfl) ?_
  refine step (v := .d (b9 eapi_Port (A2.mk (api_Port.mk 1 2) (api_Port.mk 2 2)))) (cO (ds := [.int .u16 1, .int .u16 2, .int .u16 2, .int .u16 2]) rfl) ?_
  refine q1 _ ?_
  refine step (v := cq (api_Port.mk 1 1)) (cO (ds := [.int .u16 1, .int .u16 1]) rfl) ?_
  refine step (v := cq (api_Port.mk 2 1)) (cO (ds := [.int .u16 2, .int .u16 1]) rfl) ?_
  refine q1 _ ?_
  refine step (v := c7 (api_Topo.mk ([1, 2] : List Int) ([(A2.mk (api_Port.mk 1 2) (api_Port.mk 2 2))] : List (A2 api_Port)) ([(api_Port.mk 1 1), (api_Port.mk 2 1)] : List api_Port))) (cO (ds := [eL none (D.int .u16) ([1, 2] : List Int), eL (some 4) (b9 eapi_Port) ([(A2.mk (api_Port.mk 1 2) (api_Port.mk 2 2))] : List (A2 api_Port)), eL (some 2) eapi_Port ([(api_Port.mk 1 1), (api_Port.mk 2 1)] : List api_Port)]) rfl) ?_
  refine step (v := .ptr 0 0 0) (σ' := (ak (ac []) 0 (some (.var [aq [], aW [], aG []])))) (n' := 1) rfl ?_
  refine step (v := V.undef) (σ' := (ak (ak (ac []) 0 (some (.var [aq [], aW [], aG []]))) 0 (some (.var [aq ([1, 2] : List Int), aW ([(A2.mk (api_Port.mk 1 2) (api_Port.mk 2 2))] : List (A2 api_Port)), aG ([(api_Port.mk 1 1), (api_Port.mk 2 1)] : List api_Port)])))) (n' := 1) rfl ?_
  exact nR [0]
 refine al ⟨tab [(1, .ptr 0 0 0), (2, .ptr 1 0 0)], ac [(0, .var [aq ([1, 2] : List Int), aW ([(A2.mk (api_Port.mk 1 2) (api_Port.mk 2 2))] : List (A2 api_Port)), aG ([(api_Port.mk 1 1), (api_Port.mk 2 1)] : List api_Port)]), (1, .var [vi 7, vi 0, vh 0, aC ([(am.mk 6 0 0 ([(am.mk 2 0 1 []), (am.mk 5 1 2 [])] : List am)), (am.mk 6 0 0 ([(am.mk 2 0 2 []), (am.mk 5 1 1 [])] : List am))] : List am)])], 2⟩ ?_ ?_
 ·
  refine step (v := cg (am.mk 2 0 1 [])) (cO (ds := [.int .i64 2, .int .i64 0, .int .u16 1, eL (some 4) bQ []]) rfl) ?_
  refine step (v := cg (am.mk 5 1 2 [])) (cO (ds := [.int .i64 5, .int .i64 1, .int .u16 2, eL (some 4) bQ []]) rfl) ?_
  refine step (v := aC ([(am.mk 2 0 1 []), (am.mk 5 1 2 [])] : List am)) (jR rfl (by simp [eL, eG])) ?_
  refine step (v := cg (am.mk 6 0 0 ([(am.mk 2 0 1 []), (am.mk 5 1 2 [])] : List am))) (cO (ds := [.int .i64 6, .int .i64 0, .int .u16 0, eL (some 4) bQ ([(am.mk 2 0 1 []), (am.mk 5 1 2 [])] : List am)]) rfl) ?_
  refine step (v := cg (am.mk 2 0 2 [])) (cO (ds := [.int .i64 2, .int .i64 0, .int .u16 2, eL (some 4) bQ []]) rfl) ?_
  refine step (v := cg (am.mk 5 1 1 [])) (cO (ds := [.int .i64 5, .int .i64 1, .int .u16 1, eL (some 4) bQ []]) rfl) ?_
  refine step (v := aC ([(am.mk 2 0 2 []), (am.mk 5 1 1 [])] : List am)) (jR rfl (by simp [eL, eG])) ?_
  refine step (v := cg (am.mk 6 0 0 ([(am.mk 2 0 2 []), (am.mk 5 1 1 [])] : List am))) (cO (ds := [.int .i64 6, .int .i64 0, .int .u16 0, eL (some 4) bQ ([(am.mk 2 0 2 []), (am.mk 5 1 1 [])] : List am)]) rfl) ?_
  refine step (v := aC ([(am.mk 6 0 0 ([(am.mk 2 0 1 []), (am.mk 5 1 2 [])] : List am)), (am.mk 6 0 0 ([(am.mk 2 0 2 []), (am.mk 5 1 1 [])] : List am))] : List am)) (jR rfl (by simp [eL, eG])) ?_
  refine step (v := cg (am.mk 7 0 0 ([(am.mk 6 0 0 ([(am.mk 2 0 1 []), (am.mk 5 1 2 [])] : List am)), (am.mk 6 0 0 ([(am.mk 2 0 2 []), (am.mk 5 1 1 [])] : List am))] : List am))) (cO (ds := [.int .i64 7, .int .i64 0, .int .u16 0, eL (some 4) bQ ([(am.mk 6 0 0 ([(am.mk 2 0 1 []), (am.mk 5 1 2 [])] : List am)), (am.mk 6 0 0 ([(am.mk 2 0 2 []), (am.mk 5 1 1 [])] : List am))] : List am)]) rfl) ?_
  refine step (v := .ptr 1 0 0) (σ' := (ak (ac [(0, .var [aq ([1, 2] : List Int), aW ([(A2.mk (api_Port.mk 1 2) (api_Port.mk 2 2))] : List (A2 api_Port)), aG ([(api_Port.mk 1 1), (api_Port.mk 2 1)] : List api_Port)])]) 1 (some (.var [vi 0, vi 0, vh 0, aC []])))) (n' := 2) rfl ?_
  refine step (v := V.undef) (σ' := (ak (ak (ac [(0, .var [aq ([1, 2] : List Int), aW ([(A2.mk (api_Port.mk 1 2) (api_Port.mk 2 2))] : List (A2 api_Port)), aG ([(api_Port.mk 1 1), (api_Port.mk 2 1)] : List api_Port)])]) 1 (some (.var [vi 0, vi 0, vh 0, aC []]))) 1 (some (.var [vi 7, vi 0, vh 0, aC ([(am.mk 6 0 0 ([(am.mk 2 0 1 []), (am.mk 5 1 2 [])] : List am)), (am.mk 6 0 0 ([(am.mk 2 0 2 []), (am.mk 5 1 1 [])] : List am))] : List am)])))) (n' := 2) rfl ?_
  exact nR [0, 1]
 obtain ⟨r1, hr1, h⟩ := aw h
 refine al ⟨tab [(1, .ptr 0 0 0), (2, .ptr 1 0 0), (3, .d (eL none (eL (some 8) (eA8 (D.int .u16))) r1.1)), (4, vi r1.2)], ac [(0, .var [aq ([1, 2] : List Int), aW ([(A2.mk (api_Port.mk 1 2) (api_Port.mk 2 2))] : List (A2 api_Port)), aG ([(api_Port.mk 1 1), (api_Port.mk 2 1)] : List api_Port)]), (1, .var [vi 7, vi 0, vh 0, aC ([(am.mk 6 0 0 ([(am.mk 2 0 1 []), (am.mk 5 1 2 [])] : List am)), (am.mk 6 0 0 ([(am.mk 2 0 2 []), (am.mk 5 1 1 [])] : List am))] : List am)])], 2⟩ ?_ ?_
 ·
  refine step (v := c7 (api_Topo.mk ([1, 2] : List Int) ([(A2.mk (api_Port.mk 1 2) (api_Port.mk 2 2))] : List (A2 api_Port)) ([(api_Port.mk 1 1), (api_Port.mk 2 1)] : List api_Port))) (b5 (ds := [eL none (D.int .u16) ([1, 2] : List Int), eL (some 4) (b9 eapi_Port) ([(A2.mk (api_Port.mk 1 2) (api_Port.mk 2 2))] : List (A2 api_Port)), eL (some 2) eapi_Port ([(api_Port.mk 1 1), (api_Port.mk 2 1)] : List api_Port)]) rfl rfl (show 3 ≤ 3 by decide) rfl) ?_
  refine step (v := cg (am.mk 7 0 0 ([(am.mk 6 0 0 ([(am.mk 2 0 1 []), (am.mk 5 1 2 [])] : List am)), (am.mk 6 0 0 ([(am.mk 2 0 2 []), (am.mk 5 1 1 [])] : List am))] : List am))) (b5 (ds := [.int .i64 7, .int .i64 0, .int .u16 0, eL (some 4) bQ ([(am.mk 6 0 0 ([(am.mk 2 0 1 []), (am.mk 5 1 2 [])] : List am)), (am.mk 6 0 0 ([(am.mk 2 0 2 []), (am.mk 5 1 1 [])] : List am))] : List am)]) rfl rfl (show 4 ≤ 4 by decide) rfl) ?_
  refine step (v := .d (eA8 (D.int .u16) (A8.mk 1 1 0 0 0 0 0 0))) (cO (ds := [.int .u16 1, .int .u16 1, .int .u16 0, .int .u16 0, .int .u16 0, .int .u16 0, .int .u16 0, .int .u16 0]) rfl) ?_
  refine bx (r := .tup [eL none (eL (some 8) (eA8 (D.int .u16))) r1.1, .int .i64 r1.2]) (aI (aI (aS.nl (aI aS.nil')))) (uT hr1) ?_
  iterate 5 refine q1 _ ?_
  exact nR [0, 1]
 obtain ⟨y14, hv, h⟩ := aw h
 refine al ⟨tab [(0, vb y14)], ac [], 0⟩ ?_ ?_
 ·
  iterate 3 refine q1 _ ?_
  by_cases hg2 : (r1.2 == 0) = true
  ·
   replace hv := aO hg2 hv
   refine qG _ hg2 ?_
   refine q1 _ ?_
   refine qG _ hg2 ?_
   refine step (v := vi (r1.1.length : Int)) (bG (xs := r1.1) (e := (eL (some 8) (eA8 (D.int .u16)))) rfl) ?_
   refine qG _ hg2 ?_
   refine q1 _ ?_
   refine step (v := vb ((r1.1.length : Int) == 1)) (bD (b := (r1.2 == 0)) rfl hg2 rfl) ?_
   refine q1 _ ?_
   by_cases hg3 : ((r1.1.length : Int) == 1) = true
   ·
    replace hv := aO hg3 hv
    obtain ⟨x4, hx4, hv⟩ := aw hv
    refine qG _ hg3 ?_
    refine q1 _ ?_
    refine qG _ hg3 ?_
    refine step (v := .d (.cptr none (eL (some 8) (eA8 (D.int .u16)) x4) 0)) (b4 (xs := r1.1) (e := (eL (some 8) (eA8 (D.int .u16)))) hx4 rfl rfl) ?_
    refine qG _ hg3 ?_
    refine q1 _ ?_
    refine qG _ hg3 ?_
    refine step (v := vi (x4.length : Int)) (bG (xs := x4) (e := (eA8 (D.int .u16))) rfl) ?_
    refine qG _ hg3 ?_
    refine q1 _ ?_
    refine step (v := vb ((x4.length : Int) == 4)) (bD (b := ((r1.1.length : Int) == 1)) rfl hg3 rfl) ?_
    refine q1 _ ?_
    by_cases hg5 : ((x4.length : Int) == 4) = true
    ·
     replace hv := aO hg5 hv
     obtain ⟨x6, hx6, hv⟩ := aw hv
     refine qG _ hg5 ?_
     refine q1 _ ?_
     refine qG _ hg5 ?_
     refine step (v := .d (.cptr none (eL (some 8) (eA8 (D.int .u16)) x4) 0)) (b4 (xs := r1.1) (e := (eL (some 8) (eA8 (D.int .u16)))) hx4 rfl rfl) ?_
     refine qG _ hg5 ?_
     refine q1 _ ?_
     refine qG _ hg5 ?_
     refine step (v := .d (.cptr (some 8) (eA8 (D.int .u16) x6) 0)) (b4 (xs := x4) (e := (eA8 (D.int .u16))) hx6 rfl rfl) ?_
     refine qG _ hg5 ?_
     refine q1 _ ?_
     refine qG _ hg5 ?_
     refine step (v := .d (eA8 (D.int .u16) (A8.mk 2 1 0 0 0 0 0 0))) (cO (ds := [.int .u16 2, .int .u16 1, .int .u16 0, .int .u16 0, .int .u16 0, .int .u16 0, .int .u16 0, .int .u16 0]) rfl) ?_
     refine qG _ hg5 ?_
     refine step (v := vb (x6 == (A8.mk 2 1 0 0 0 0 0 0))) (dD (neg := false) rfl rfl (fS x6 (A8.mk 2 1 0 0 0 0 0 0))) ?_
     refine step (v := vb (x6 == (A8.mk 2 1 0 0 0 0 0 0))) (bD (b := ((x4.length : Int) == 4)) rfl hg5 rfl) ?_
     refine q1 _ ?_
     by_cases hg7 : (x6 == (A8.mk 2 1 0 0 0 0 0 0)) = true
     ·
      replace hv := aO hg7 hv
      obtain ⟨r8, hr8, hv⟩ := aw hv
      refine qG _ hg7 ?_
      refine step (v := c7 (api_Topo.mk ([1, 2] : List Int) ([(A2.mk (api_Port.mk 1 2) (api_Port.mk 2 2))] : List (A2 api_Port)) ([(api_Port.mk 1 1), (api_Port.mk 2 1)] : List api_Port))) (b5 (ds := [eL none (D.int .u16) ([1, 2] : List Int), eL (some 4) (b9 eapi_Port) ([(A2.mk (api_Port.mk 1 2) (api_Port.mk 2 2))] : List (A2 api_Port)), eL (some 2) eapi_Port ([(api_Port.mk 1 1), (api_Port.mk 2 1)] : List api_Port)]) rfl rfl (show 3 ≤ 3 by decide) rfl) ?_
      refine qG _ hg7 ?_
      refine step (v := cg (am.mk 7 0 0 ([(am.mk 6 0 0 ([(am.mk 2 0 1 []), (am.mk 5 1 2 [])] : List am)), (am.mk 6 0 0 ([(am.mk 2 0 2 []), (am.mk 5 1 1 [])] : List am))] : List am))) (b5 (ds := [.int .i64 7, .int .i64 0, .int .u16 0, eL (some 4) bQ ([(am.mk 6 0 0 ([(am.mk 2 0 1 []), (am.mk 5 1 2 [])] : List am)), (am.mk 6 0 0 ([(am.mk 2 0 2 []), (am.mk 5 1 1 [])] : List am))] : List am)]) rfl rfl (show 4 ≤ 4 by decide) rfl) ?_
      refine qG _ hg7 ?_
      refine q1 _ ?_
      refine qG _ hg7 ?_
      refine step (v := .d (.cptr none (eL (some 8) (eA8 (D.int .u16)) x4) 0)) (b4 (xs := r1.1) (e := (eL (some 8) (eA8 (D.int .u16)))) hx4 rfl rfl) ?_
      refine qG _ hg7 ?_
      refine q1 _ ?_
      refine qG _ hg7 ?_
      refine bx (r := .bool r8) (aI (aI (aS.nl (aI aS.nil')))) (oc hr8) ?_
      refine step (v := vb r8) (bD (b := (x6 == (A8.mk 2 1 0 0 0 0 0 0))) rfl hg7 rfl) ?_
      refine q1 _ ?_
      by_cases hg9 : r8 = true
      ·
       replace hv := aO hg9 hv
       obtain ⟨r10, hr10, hv⟩ := aw hv
       refine qG _ hg9 ?_
       refine step (v := c7 (api_Topo.mk ([1, 2] : List Int) ([(A2.mk (api_Port.mk 1 2) (api_Port.mk 2 2))] : List (A2 api_Port)) ([(api_Port.mk 1 1), (api_Port.mk 2 1)] : List api_Port))) (b5 (ds := [eL none (D.int .u16) ([1, 2] : List Int), eL (some 4) (b9 eapi_Port) ([(A2.mk (api_Port.mk 1 2) (api_Port.mk 2 2))] : List (A2 api_Port)), eL (some 2) eapi_Port ([(api_Port.mk 1 1), (api_Port.mk 2 1)] : List api_Port)]) rfl rfl (show 3 ≤ 3 by decide) rfl) ?_
       refine qG _ hg9 ?_
       refine step (v := cg (am.mk 7 0 0 ([(am.mk 6 0 0 ([(am.mk 2 0 1 []), (am.mk 5 1 2 [])] : List am)), (am.mk 6 0 0 ([(am.mk 2 0 2 []), (am.mk 5 1 1 [])] : List am))] : List am))) (b5 (ds := [.int .i64 7, .int .i64 0, .int .u16 0, eL (some 4) bQ ([(am.mk 6 0 0 ([(am.mk 2 0 1 []), (am.mk 5 1 2 [])] : List am)), (am.mk 6 0 0 ([(am.mk 2 0 2 []), (am.mk 5 1 1 [])] : List am))] : List am)]) rfl rfl (show 4 ≤ 4 by decide) rfl) ?_
       refine qG _ hg9 ?_
       refine q1 _ ?_
       refine qG _ hg9 ?_
       refine step (v := .d (.cptr none (eL (some 8) (eA8 (D.int .u16)) x4) 0)) (b4 (xs := r1.1) (e := (eL (some 8) (eA8 (D.int .u16)))) hx4 rfl rfl) ?_
       refine qG _ hg9 ?_
       refine q1 _ ?_
       refine qG _ hg9 ?_
       refine bx (r := .bool r10) (aI (aI (aS.nl (aI aS.nil')))) (od hr10) ?_
       refine step (v := vb r10) (bD (b := r8) rfl hg9 rfl) ?_
       refine q1 _ ?_
       by_cases hg11 : r10 = true
       ·
        replace hv := aO hg11 hv
        obtain ⟨l12, hl12, hv⟩ := aw hv
        obtain ⟨r13, hr13, hv⟩ := aw hv
        refine qG _ hg11 ?_
        refine step (v := c7 (api_Topo.mk ([1, 2] : List Int) ([(A2.mk (api_Port.mk 1 2) (api_Port.mk 2 2))] : List (A2 api_Port)) ([(api_Port.mk 1 1), (api_Port.mk 2 1)] : List api_Port))) (b5 (ds := [eL none (D.int .u16) ([1, 2] : List Int), eL (some 4) (b9 eapi_Port) ([(A2.mk (api_Port.mk 1 2) (api_Port.mk 2 2))] : List (A2 api_Port)), eL (some 2) eapi_Port ([(api_Port.mk 1 1), (api_Port.mk 2 1)] : List api_Port)]) rfl rfl (show 3 ≤ 3 by decide) rfl) ?_
        refine qG _ hg11 ?_
        refine step (v := cg (am.mk 7 0 0 ([(am.mk 6 0 0 ([(am.mk 2 0 1 []), (am.mk 5 1 2 [])] : List am)), (am.mk 6 0 0 ([(am.mk 2 0 2 []), (am.mk 5 1 1 [])] : List am))] : List am))) (b5 (ds := [.int .i64 7, .int .i64 0, .int .u16 0, eL (some 4) bQ ([(am.mk 6 0 0 ([(am.mk 2 0 1 []), (am.mk 5 1 2 [])] : List am)), (am.mk 6 0 0 ([(am.mk 2 0 2 []), (am.mk 5 1 1 [])] : List am))] : List am)]) rfl rfl (show 4 ≤ 4 by decide) rfl) ?_
        refine qG _ hg11 ?_
        refine q1 _ ?_
        refine qG _ hg11 ?_
        refine step (v := .d (.cptr none (eL (some 8) (eA8 (D.int .u16)) x4) 0)) (b4 (xs := r1.1) (e := (eL (some 8) (eA8 (D.int .u16)))) hx4 rfl rfl) ?_
        refine qG _ hg11 ?_
        refine q1 _ ?_
        refine qG _ hg11 ?_
        refine step (v := .d (eL (some 8) (eA8 (D.int .u16)) l12)) (qo (xs := x4) (e := (eA8 (D.int .u16))) hl12 rfl rfl ⟨_, rfl⟩) ?_
        refine qG _ hg11 ?_
        refine bx (r := .bool r13) (aI (aI (aS.nl (aI aS.nil')))) (od hr13) ?_
        refine qG _ hg11 ?_
        refine q1 _ ?_
        refine step (v := vb (!r13)) (bD (b := r10) rfl hg11 rfl) ?_
        refine q1 _ ?_
        have hh := ar hv
        subst hh
        exact nR []
       ·
        replace hv := aP hg11 hv
        iterate 8 refine qX _ hg11 ?_
        refine step (v := vb false) (bu (b := r10) rfl hg11 rfl) ?_
        refine q1 _ ?_
        have hh := ar hv
        subst hh
        exact nR []
      ·
       replace hv := aP hg9 hv
       iterate 6 refine qX _ hg9 ?_
       refine step (v := vb false) (bu (b := r8) rfl hg9 rfl) ?_
       refine q1 _ ?_
       iterate 8 refine qX false (by decide) ?_
       refine step (v := vb false) (bu (b := false) rfl (by decide) rfl) ?_
       refine q1 _ ?_
       have hh := ar hv
       subst hh
       exact nR []
     ·
      replace hv := aP hg7 hv
      iterate 6 refine qX _ hg7 ?_
      refine step (v := vb false) (bu (b := (x6 == (A8.mk 2 1 0 0 0 0 0 0))) rfl hg7 rfl) ?_
      refine q1 _ ?_
      iterate 6 refine qX false (by decide) ?_
      refine step (v := vb false) (bu (b := false) rfl (by decide) rfl) ?_
      refine q1 _ ?_
      iterate 8 refine qX false (by decide) ?_
      refine step (v := vb false) (bu (b := false) rfl (by decide) rfl) ?_
      refine q1 _ ?_
      have hh := ar hv
      subst hh
      exact nR []
    ·
     replace hv := aP hg5 hv
     iterate 7 refine qX _ hg5 ?_
     refine step (v := vb false) (bu (b := ((x4.length : Int) == 4)) rfl hg5 rfl) ?_
     refine q1 _ ?_
     iterate 6 refine qX false (by decide) ?_
     refine step (v := vb false) (bu (b := false) rfl (by decide) rfl) ?_
     refine q1 _ ?_
     iterate 6 refine qX false (by decide) ?_
     refine step (v := vb false) (bu (b := false) rfl (by decide) rfl) ?_
     refine q1 _ ?_
     iterate 8 refine qX false (by decide) ?_
     refine step (v := vb false) (bu (b := false) rfl (by decide) rfl) ?_
     refine q1 _ ?_
     have hh := ar hv
     subst hh
     exact nR []
   ·
    replace hv := aP hg3 hv
    iterate 5 refine qX _ hg3 ?_
    refine step (v := vb false) (bu (b := ((r1.1.length : Int) == 1)) rfl hg3 rfl) ?_
    refine q1 _ ?_
    iterate 7 refine qX false (by decide) ?_
    refine step (v := vb false) (bu (b := false) rfl (by decide) rfl) ?_
    refine q1 _ ?_
    iterate 6 refine qX false (by decide) ?_
    refine step (v := vb false) (bu (b := false) rfl (by decide) rfl) ?_
    refine q1 _ ?_
    iterate 6 refine qX false (by decide) ?_
    refine step (v := vb false) (bu (b := false) rfl (by decide) rfl) ?_
    refine q1 _ ?_
    iterate 8 refine qX false (by decide) ?_
    refine step (v := vb false) (bu (b := false) rfl (by decide) rfl) ?_
    refine q1 _ ?_
    have hh := ar hv
    subst hh
    exact nR []
  ·
   replace hv := aP hg2 hv
   iterate 3 refine qX _ hg2 ?_
   refine step (v := vb false) (bu (b := (r1.2 == 0)) rfl hg2 rfl) ?_
   refine q1 _ ?_
   iterate 5 refine qX false (by decide) ?_
   refine step (v := vb false) (bu (b := false) rfl (by decide) rfl) ?_
   refine q1 _ ?_
   iterate 7 refine qX false (by decide) ?_
   refine step (v := vb false) (bu (b := false) rfl (by decide) rfl) ?_
   refine q1 _ ?_
   iterate 6 refine qX false (by decide) ?_
   refine step (v := vb false) (bu (b := false) rfl (by decide) rfl) ?_
   refine q1 _ ?_
   iterate 6 refine qX false (by decide) ?_
   refine step (v := vb false) (bu (b := false) rfl (by decide) rfl) ?_
   refine q1 _ ?_
   iterate 8 refine qX false (by decide) ?_
   refine step (v := vb false) (bu (b := false) rfl (by decide) rfl) ?_
   refine q1 _ ?_
   have hh := ar hv
   subst hh
   exact nR []
 have hh := ar h
 subst hh
 refine aN ?_
 show FQ _ _ _ _
 exact bn (.inr rfl) (be (v := vb y14) rfl rfl) (RV.d trivial)
theorem oe {a0 : api_Topo} {a1 : Int} {r : Int} (h : eS a0 a1 = some r) : PCall Try.prog 65 [eapi_Topo a0, .int .u16 a1] (.int .i64 r) := by
 refine PCall.introN tU (show 2 ≤ 21 by decide) ?_
 refine aX (s0 := ⟨tab [(0, c7 a0), (1, vh a1)], ac [], 0⟩) (nr []) ?_
 refine al ⟨tab [(1, vh a1), (2, aZ a0)], ac [], 0⟩ ?_ ?_
 ·
  iterate 2 refine q1 _ ?_
  exact nR []
 refine aF ?_
 refine al ⟨tab [(1, vh a1), (2, aZ a0), (5, vi 0)], ac [], 0⟩ ?_ ?_
 ·
  refine q1 _ ?_
  exact nR []
 obtain ⟨q9, hl, h⟩ := aw h
 refine bz ?_
 refine df (cA (a0.Switches.length : Int)) (fun (i1 : Int) (qq : Unit) => ⟨tab [(1, vh a1), (2, aZ a0), (5, vi i1)], ac [], 0⟩) 0 (fun (qq : Unit) => ⟨tab [], ac [], 0⟩) bF cB (r := r) hl (by unfold bF; omega) ?_ ?_ ?_ ?_
 ·
  rintro i1 ⟨⟩ xr6 hinv4 hgo3 h
  show aK _ _ _ _ _ ⟨tab [(1, vh a1), (2, aZ a0), (5, vi i1)], ac [], 0⟩
  have hc5 : decide (i1 < (a0.Switches.length : Int)) = true := decide_eq_true hgo3
  refine aF ?_
  refine al ⟨tab [(1, vh a1), (2, aZ a0), (5, vi i1), (9, vi (a0.Switches.length : Int)), (10, vb (decide (i1 < (a0.Switches.length : Int))))], ac [], 0⟩ ?_ ?_
  ·
   iterate 3 refine q1 _ ?_
   refine step (v := vi (a0.Switches.length : Int)) (bG (xs := a0.Switches) (e := (D.int .u16)) rfl) ?_
   refine q1 _ ?_
   exact nR []
  refine cz 9 rfl fun hB2 => ?_
  refine aU (t := decide (i1 < (a0.Switches.length : Int))) rfl hc5 ?_
  refine bd ?_
  refine aF ?_
  refine bz ?_
  obtain ⟨x7, hx7, h⟩ := aw h
  refine al ⟨tab [(1, vh a1), (2, aZ a0), (5, vi i1), (19, vb (x7 == a1))], ac [], 0⟩ ?_ ?_
  ·
   iterate 3 refine q1 _ ?_
   refine step (v := .d (.cptr none (.int .u16 x7) 0)) (b4 (xs := a0.Switches) (e := (D.int .u16)) hx7 rfl rfl) ?_
   iterate 3 refine q1 _ ?_
   exact nR []
  by_cases hc8 : (x7 == a1) = true
  ·
   replace h := aO hc8 h
   refine aU (t := (x7 == a1)) rfl hc8 ?_
   refine al ⟨tab [(4, vi i1)], ac [], 0⟩ ?_ ?_
   ·
    iterate 2 refine q1 _ ?_
    exact nR []
   obtain ⟨r9, kr9, hr⟩ := co (o := some i1) (g := Br.ret) h
   subst hr
   have h := kr9
   have hh := ar h
   subst hh
   refine aN ?_
   refine And.intro (fun hn => nomatch hn) ?_
   intro hq
   have hq := hq.symm
   subst hq
   show FQ _ _ _ _
   exact bn (.inr rfl) (be (v := vi i1) rfl rfl) (RV.d trivial)
  ·
   replace h := aP hc8 h
   refine aT (t := (x7 == a1)) rfl hc8 ?_
   refine bd ?_
   have hh := ar h
   subst hh
   refine bT ⟨tab [(1, vh a1), (2, aZ a0), (5, vi (i1 + 1))], ac [], 0⟩ ?_ ?_
   ·
    refine q1 _ ?_
    refine step (v := vi (i1 + 1)) (cC (cD hinv4 hgo3 hB2) rfl rfl) ?_
    refine q1 _ ?_
    exact nR []
   exact And.intro rfl rfl
 ·
  rintro i1 ⟨⟩ hinv4 hgo3
  show aK _ _ _ _ _ ⟨tab [(1, vh a1), (2, aZ a0), (5, vi i1)], ac [], 0⟩
  have hc5 : ¬ (decide (i1 < (a0.Switches.length : Int)) = true) := fun hq => hgo3 (of_decide_eq_true hq)
  refine aF ?_
  refine al ⟨tab [(1, vh a1), (2, aZ a0), (5, vi i1), (10, vb (decide (i1 < (a0.Switches.length : Int))))], ac [], 0⟩ ?_ ?_
  ·
   iterate 3 refine q1 _ ?_
   refine step (v := vi (a0.Switches.length : Int)) (bG (xs := a0.Switches) (e := (D.int .u16)) rfl) ?_
   refine q1 _ ?_
   exact nR []
  refine aT (t := decide (i1 < (a0.Switches.length : Int))) rfl hc5 ?_
  refine aX (s0 := ⟨tab [], ac [], 0⟩) (nr []) ?_
  refine cn ?_
  exact And.intro rfl rfl
 ·
  intro r' hq
  subst hq
  exact ar h
 rintro ⟨⟩ rfl
 refine al ⟨tab [(4, vi (-1))], ac [], 0⟩ ?_ ?_
 ·
  refine q1 _ ?_
  exact nR []
 have hh := ar h
 subst hh
 refine aN ?_
 show FQ _ _ _ _
 exact bn (.inr rfl) (be (v := vi (-1)) rfl rfl) (RV.d trivial)
theorem uX {a0 : api_Topo} {r : (List api_Port)} (h : iL a0 = some r) : PCall Try.prog 66 [eapi_Topo a0] (eL (some 2) eapi_Port r) := by
 refine PCall.introN tX (show 1 ≤ 31 by decide) ?_
 refine aX (s0 := ⟨tab [(0, c7 a0)], ac [], 0⟩) (nr []) ?_
 refine al ⟨tab [(1, aZ a0)], ac [], 0⟩ ?_ ?_
 ·
  iterate 2 refine q1 _ ?_
  exact nR []
 refine al ⟨tab [(1, aZ a0), (3, .d (.nils))], ac [], 0⟩ ?_ ?_
 ·
  refine q1 _ ?_
  exact nR []
 refine aF ?_
 refine al ⟨tab [(1, aZ a0), (3, .d (.nils)), (4, vi 0)], ac [], 0⟩ ?_ ?_
 ·
  refine q1 _ ?_
  exact nR []
 obtain ⟨z10, hl, h⟩ := aw h
 refine aX (s0 := ⟨tab [(1, aZ a0), (3, .loc 0 0 (([] : List api_Port).length)), (4, vi 0)], ac [(0, .lst false (some 2) (List.map eapi_Port ([] : List api_Port)))], 1⟩) (bK.trans (s2 := ⟨tab [(1, aZ a0), (3, .loc 0 0 (([] : List api_Port).length)), (4, vi 0)], ac [(0, .lst false (some 2) (List.map eapi_Port ([] : List api_Port)))], 1⟩) (iC 3 false (some 2) rfl) (nr [0])) ?_
 refine bz ?_
 refine fN (cA (a0.Links.length : Int)) (fun (i2 : Int) (qq : (List api_Port)) => ⟨tab [(1, aZ a0), (3, .loc 0 0 qq.length), (4, vi i2)], ac [(0, .lst false (some 2) (List.map eapi_Port qq))], 1⟩) 0 (fun (qq : (List api_Port)) => ⟨tab [(1, aZ a0), (3, .loc 0 0 qq.length)], ac [(0, .lst false (some 2) (List.map eapi_Port qq))], 1⟩) bF cB hl (by unfold bF; omega) ?_ ?_ ?_
 ·
  rintro i2 l1 xr7 hinv5 hgo4 h
  show aK _ _ _ _ _ ⟨tab [(1, aZ a0), (3, .loc 0 0 l1.length), (4, vi i2)], ac [(0, .lst false (some 2) (List.map eapi_Port l1))], 1⟩
  have hc6 : decide (i2 < (a0.Links.length : Int)) = true := decide_eq_true hgo4
  refine aF ?_
  refine al ⟨tab [(1, aZ a0), (3, .loc 0 0 l1.length), (4, vi i2), (8, vi (a0.Links.length : Int)), (9, vb (decide (i2 < (a0.Links.length : Int))))], ac [(0, .lst false (some 2) (List.map eapi_Port l1))], 1⟩ ?_ ?_
  ·
   iterate 3 refine q1 _ ?_
   refine step (v := vi (a0.Links.length : Int)) (bG (xs := a0.Links) (e := (b9 eapi_Port)) rfl) ?_
   refine q1 _ ?_
   exact nR [0]
  refine cz 8 rfl fun hB3 => ?_
  refine aU (t := decide (i2 < (a0.Links.length : Int))) rfl hc6 ?_
  refine bd ?_
  refine aF ?_
  refine bz ?_
  obtain ⟨x8, hx8, h⟩ := aw h
  obtain ⟨l9, hl9, h⟩ := aw h
  refine iV ⟨tab [(1, aZ a0), (3, .loc 0 0 l9.length), (4, vi i2)], ac [(0, .lst false (some 2) (List.map eapi_Port l9))], 1⟩ ?_ ?_
  ·
   refine bM [] [] (v := .loc 0 0 l1.length) rfl rfl rfl ?_
   refine bM [] [] (v := .d (.cptr (some 3) (eapi_Topo a0) 1)) rfl rfl rfl ?_
   refine bM [] [] (v := aW a0.Links) rfl rfl rfl ?_
   refine bM [] [] (v := vi i2) rfl rfl rfl ?_
   refine bM [] [] (v := .d (.cptr (some 4) (b9 eapi_Port x8) 0)) (b4 (xs := a0.Links) (e := (b9 eapi_Port)) hx8 rfl rfl) rfl rfl ?_
   refine bM [] [] (v := .d (.cptr (some 4) (b9 eapi_Port x8) 0)) rfl rfl rfl ?_
   refine bM [] [] (v := cq x8.a0) rfl rfl rfl ?_
   refine bM [] [] (v := .d (.cptr (some 3) (eapi_Topo a0) 1)) rfl rfl rfl ?_
   refine bM [] [] (v := aW a0.Links) rfl rfl rfl ?_
   refine bM [] [] (v := vi i2) rfl rfl rfl ?_
   refine bM [] [] (v := .d (.cptr (some 4) (b9 eapi_Port x8) 0)) (b4 (xs := a0.Links) (e := (b9 eapi_Port)) hx8 rfl rfl) rfl rfl ?_
   refine bM [] [] (v := .d (.cptr (some 4) (b9 eapi_Port x8) 2)) rfl rfl rfl ?_
   refine bM [] [] (v := cq x8.a1) rfl rfl rfl ?_
   refine bM [] [] (v := aG ([x8.a0, x8.a1] : List api_Port)) rfl rfl rfl ?_
   refine bM [0] [0] (v := .loc 1 0 l9.length) (σ' := (ak (ak (ac [(0, .lst false (some 2) (List.map eapi_Port l1))]) 0 none) 1 (some (.lst false (some 2) (List.map eapi_Port l9))))) (n' := 2) (eQ (xs := l1) (ys := ([x8.a0, x8.a1] : List api_Port)) (e := eapi_Port) hl9 rfl rfl rfl (eP (xs := ([x8.a0, x8.a1] : List api_Port)) (e := eapi_Port) rfl)) rfl rfl ?_
   refine bM [] [] (v := .loc 1 0 l9.length) rfl rfl rfl ?_
   exact bX.nil' ⟨by decide, nr [1]⟩
  have hh := ar h
  subst hh
  refine bT ⟨tab [(1, aZ a0), (3, .loc 0 0 l9.length), (4, vi (i2 + 1))], ac [(0, .lst false (some 2) (List.map eapi_Port l9))], 1⟩ ?_ ?_
  ·
   refine q1 _ ?_
   refine step (v := vi (i2 + 1)) (cC (cD hinv5 hgo4 hB3) rfl rfl) ?_
   refine q1 _ ?_
   exact nR [0]
  exact And.intro rfl rfl
 ·
  rintro i2 l1 hinv5 hgo4
  show aK _ _ _ _ _ ⟨tab [(1, aZ a0), (3, .loc 0 0 l1.length), (4, vi i2)], ac [(0, .lst false (some 2) (List.map eapi_Port l1))], 1⟩
  have hc6 : ¬ (decide (i2 < (a0.Links.length : Int)) = true) := fun hq => hgo4 (of_decide_eq_true hq)
  refine aF ?_
  refine al ⟨tab [(1, aZ a0), (3, .loc 0 0 l1.length), (4, vi i2), (9, vb (decide (i2 < (a0.Links.length : Int))))], ac [(0, .lst false (some 2) (List.map eapi_Port l1))], 1⟩ ?_ ?_
  ·
   iterate 3 refine q1 _ ?_
   refine step (v := vi (a0.Links.length : Int)) (bG (xs := a0.Links) (e := (b9 eapi_Port)) rfl) ?_
   refine q1 _ ?_
   exact nR [0]
  refine aT (t := decide (i2 < (a0.Links.length : Int))) rfl hc6 ?_
  refine aX (s0 := ⟨tab [(1, aZ a0), (3, .loc 0 0 l1.length)], ac [(0, .lst false (some 2) (List.map eapi_Port l1))], 1⟩) (nr [0]) ?_
  refine cn ?_
  exact And.intro rfl rfl
 obtain ⟨l11, hl11, h⟩ := aw h
 refine al ⟨tab [(2, .loc 0 0 l11.length)], ac [(0, .lst false (some 2) (List.map eapi_Port l11))], 1⟩ ?_ ?_
 ·
  iterate 3 refine q1 _ ?_
  refine step (v := .loc 1 0 l11.length) (σ' := (ak (ak (ac [(0, .lst false (some 2) (List.map eapi_Port z10))]) 0 none) 1 (some (.lst false (some 2) (List.map eapi_Port l11))))) (n' := 2) (eQ (xs := z10) (ys := a0.Hosts) (e := eapi_Port) hl11 rfl rfl rfl (eP (xs := a0.Hosts) (e := eapi_Port) rfl)) ?_
  refine q1 _ ?_
  exact nR [1]
 have hh := ar h
 subst hh
 refine aN ?_
 show FQ _ _ _ _
 exact bn (.inr rfl) (be (v := .loc 0 0 l11.length) rfl rfl) (RV.loc (xs := l11) (e := eapi_Port) rfl rfl trivial)
theorem uY {a0 : api_Topo} {r : Int} (h : iM a0 = some r) : PCall Try.prog 35 [eapi_Topo a0] (.int .i64 r) := by
 refine PCall.introN t4 (show 1 ≤ 76 by decide) ?_
 refine aX (s0 := ⟨tab [(0, c7 a0)], ac [], 0⟩) (nr []) ?_
 refine al ⟨tab [(1, aZ a0)], ac [], 0⟩ ?_ ?_
 ·
  iterate 2 refine q1 _ ?_
  exact nR []
 refine aF ?_
 refine al ⟨tab [(1, aZ a0), (23, vb ((decide ((a0.Switches.length : Int) > 12)) || ((decide ((a0.Links.length : Int) > 24)) || (decide ((a0.Hosts.length : Int) > 24)))))], ac [], 0⟩ ?_ ?_
 ·
  iterate 2 refine q1 _ ?_
  refine step (v := vi (a0.Switches.length : Int)) (bG (xs := a0.Switches) (e := (D.int .u16)) rfl) ?_
  iterate 2 refine q1 _ ?_
  by_cases hg1 : decide ((a0.Switches.length : Int) > 12) = true
  ·
   iterate 4 refine qX (decide ((a0.Switches.length : Int) > 12)) (by rw [hg1]; decide) ?_
   refine step (v := vb true) (bD (b := decide ((a0.Switches.length : Int) > 12)) rfl hg1 rfl) ?_
   refine q1 _ ?_
   iterate 4 refine qX true (by decide) ?_
   refine step (v := vb true) (bD (b := true) rfl rfl rfl) ?_
   exact bh.nil' (nm [] ⟨.d _, .eq (by first | (simp [hg1]; done) | (simp_all; done) | grind), trivial⟩ trivial)
  ·
   refine qG (decide ((a0.Switches.length : Int) > 12)) (Bool.eq_false_iff.2 hg1) ?_
   refine q1 _ ?_
   refine qG (decide ((a0.Switches.length : Int) > 12)) (Bool.eq_false_iff.2 hg1) ?_
   refine q1 _ ?_
   refine qG (decide ((a0.Switches.length : Int) > 12)) (Bool.eq_false_iff.2 hg1) ?_
   refine step (v := vi (a0.Links.length : Int)) (bG (xs := a0.Links) (e := (b9 eapi_Port)) rfl) ?_
   refine qG (decide ((a0.Switches.length : Int) > 12)) (Bool.eq_false_iff.2 hg1) ?_
   refine q1 _ ?_
   refine step (v := vb (decide ((a0.Links.length : Int) > 24))) (bu (b := decide ((a0.Switches.length : Int) > 12)) rfl hg1 rfl) ?_
   refine q1 _ ?_
   by_cases hg2 : decide ((a0.Links.length : Int) > 24) = true
   ·
    iterate 4 refine qX (decide ((a0.Links.length : Int) > 24)) (by rw [hg2]; decide) ?_
    refine step (v := vb true) (bD (b := decide ((a0.Links.length : Int) > 24)) rfl hg2 rfl) ?_
    exact bh.nil' (nm [] ⟨.d _, .eq (by first | (simp [hg1, hg2]; done) | (simp_all; done) | grind), trivial⟩ trivial)
   ·
    refine qG (decide ((a0.Links.length : Int) > 24)) (Bool.eq_false_iff.2 hg2) ?_
    refine q1 _ ?_
    refine qG (decide ((a0.Links.length : Int) > 24)) (Bool.eq_false_iff.2 hg2) ?_
    refine q1 _ ?_
    refine qG (decide ((a0.Links.length : Int) > 24)) (Bool.eq_false_iff.2 hg2) ?_
    refine step (v := vi (a0.Hosts.length : Int)) (bG (xs := a0.Hosts) (e := eapi_Port) rfl) ?_
    refine qG (decide ((a0.Links.length : Int) > 24)) (Bool.eq_false_iff.2 hg2) ?_
    refine q1 _ ?_
    refine step (v := vb (decide ((a0.Hosts.length : Int) > 24))) (bu (b := decide ((a0.Links.length : Int) > 24)) rfl hg2 rfl) ?_
    exact bh.nil' (nm [] ⟨.d _, .eq (by first | (simp [hg1, hg2]; done) | (simp_all; done) | grind), trivial⟩ trivial)
 by_cases hc3 : ((decide ((a0.Switches.length : Int) > 12)) || ((decide ((a0.Links.length : Int) > 24)) || (decide ((a0.Hosts.length : Int) > 24)))) = true
 ·
  replace h := aO hc3 h
  refine aU (t := ((decide ((a0.Switches.length : Int) > 12)) || ((decide ((a0.Links.length : Int) > 24)) || (decide ((a0.Hosts.length : Int) > 24))))) rfl hc3 ?_
  refine al ⟨tab [(2, vi 2)], ac [], 0⟩ ?_ ?_
  ·
   refine q1 _ ?_
   exact nR []
  have hh := ar h
  subst hh
  refine aN ?_
  show FQ _ _ _ _
  exact bn (.inr rfl) (be (v := vi 2) rfl rfl) (RV.d trivial)
 ·
  replace h := aP hc3 h
  refine aT (t := ((decide ((a0.Switches.length : Int) > 12)) || ((decide ((a0.Links.length : Int) > 24)) || (decide ((a0.Hosts.length : Int) > 24))))) rfl hc3 ?_
  refine bd ?_
  refine aF ?_
  refine al ⟨tab [(1, aZ a0), (3, vi 0)], ac [], 0⟩ ?_ ?_
  ·
   refine q1 _ ?_
   exact nR []
  obtain ⟨q41, hl, h⟩ := aw h
  refine bz ?_
  refine df (cA (a0.Switches.length : Int)) (fun (i4 : Int) (qq : Unit) => ⟨tab [(1, aZ a0), (3, vi i4)], ac [], 0⟩) 0 (fun (qq : Unit) => ⟨tab [(1, aZ a0)], ac [], 0⟩) bF cB (r := r) hl (by unfold bF; omega) ?_ ?_ ?_ ?_
  ·
   rintro i4 ⟨⟩ xr9 hinv7 hgo6 h
   show aK _ _ _ _ _ ⟨tab [(1, aZ a0), (3, vi i4)], ac [], 0⟩
   have hc8 : decide (i4 < (a0.Switches.length : Int)) = true := decide_eq_true hgo6
   refine aF ?_
   refine al ⟨tab [(1, aZ a0), (3, vi i4), (27, vi (a0.Switches.length : Int)), (28, vb (decide (i4 < (a0.Switches.length : Int))))], ac [], 0⟩ ?_ ?_
   ·
    iterate 3 refine q1 _ ?_
    refine step (v := vi (a0.Switches.length : Int)) (bG (xs := a0.Switches) (e := (D.int .u16)) rfl) ?_
    refine q1 _ ?_
    exact nR []
   refine cz 27 rfl fun hB5 => ?_
   refine aU (t := decide (i4 < (a0.Switches.length : Int))) rfl hc8 ?_
   refine bd ?_
   refine aF ?_
   refine bz ?_
   obtain ⟨x10, hx10, h⟩ := aw h
   obtain ⟨r11, hr11, h⟩ := aw h
   refine al ⟨tab [(1, aZ a0), (3, vi i4), (39, vb (r11 != i4))], ac [], 0⟩ ?_ ?_
   ·
    iterate 4 refine q1 _ ?_
    refine step (v := .d (.cptr none (.int .u16 x10) 0)) (b4 (xs := a0.Switches) (e := (D.int .u16)) hx10 rfl rfl) ?_
    refine q1 _ ?_
    refine bx (r := .int .i64 r11) (aI (aI aS.nil')) (oe hr11) ?_
    iterate 2 refine q1 _ ?_
    exact nR []
   by_cases hc12 : (r11 != i4) = true
   ·
    replace h := aO hc12 h
    refine aU (t := (r11 != i4)) rfl hc12 ?_
    refine al ⟨tab [(2, vi 12)], ac [], 0⟩ ?_ ?_
    ·
     refine q1 _ ?_
     exact nR []
    obtain ⟨r13, kr13, hr⟩ := co (o := some 12) (g := Br.ret) h
    subst hr
    have h := kr13
    have hh := ar h
    subst hh
    refine aN ?_
    refine And.intro (fun hn => nomatch hn) ?_
    intro hq
    have hq := hq.symm
    subst hq
    show FQ _ _ _ _
    exact bn (.inr rfl) (be (v := vi 12) rfl rfl) (RV.d trivial)
   ·
    replace h := aP hc12 h
    refine aT (t := (r11 != i4)) rfl hc12 ?_
    refine bd ?_
    have hh := ar h
    subst hh
    refine bT ⟨tab [(1, aZ a0), (3, vi (i4 + 1))], ac [], 0⟩ ?_ ?_
    ·
     refine q1 _ ?_
     refine step (v := vi (i4 + 1)) (cC (cD hinv7 hgo6 hB5) rfl rfl) ?_
     refine q1 _ ?_
     exact nR []
    exact And.intro rfl rfl
  ·
   rintro i4 ⟨⟩ hinv7 hgo6
   show aK _ _ _ _ _ ⟨tab [(1, aZ a0), (3, vi i4)], ac [], 0⟩
   have hc8 : ¬ (decide (i4 < (a0.Switches.length : Int)) = true) := fun hq => hgo6 (of_decide_eq_true hq)
   refine aF ?_
   refine al ⟨tab [(1, aZ a0), (3, vi i4), (28, vb (decide (i4 < (a0.Switches.length : Int))))], ac [], 0⟩ ?_ ?_
   ·
    iterate 3 refine q1 _ ?_
    refine step (v := vi (a0.Switches.length : Int)) (bG (xs := a0.Switches) (e := (D.int .u16)) rfl) ?_
    refine q1 _ ?_
    exact nR []
   refine aT (t := decide (i4 < (a0.Switches.length : Int))) rfl hc8 ?_
   refine aX (s0 := ⟨tab [(1, aZ a0)], ac [], 0⟩) (nr []) ?_
   refine cn ?_
   exact And.intro rfl rfl
  ·
   intro r' hq
   subst hq
   exact ar h
  rintro ⟨⟩ rfl
  obtain ⟨r13, hr13, h⟩ := aw h
  refine al ⟨tab [(1, aZ a0), (4, aG r13)], ac [], 0⟩ ?_ ?_
  ·
   refine q1 _ ?_
   refine bx (r := eL (some 2) eapi_Port r13) (aI aS.nil') (uX hr13) ?_
   refine q1 _ ?_
   exact nR []
  refine aF ?_
  refine al ⟨tab [(1, aZ a0), (4, aG r13), (5, vi 0)], ac [], 0⟩ ?_ ?_
  ·
   refine q1 _ ?_
   exact nR []
  obtain ⟨q40, hl, h⟩ := aw h
  refine bz ?_
  refine df (cA (r13.length : Int)) (fun (i14 : Int) (qq : Unit) => ⟨tab [(1, aZ a0), (4, aG r13), (5, vi i14)], ac [], 0⟩) 2 (fun (qq : Unit) => ⟨tab [(4, aG r13)], ac [], 0⟩) bF cB (r := r) hl (by unfold bF; omega) ?_ ?_ ?_ ?_
  ·
   rintro i14 ⟨⟩ xr19 hinv17 hgo16 h
   show aK _ _ _ _ _ ⟨tab [(1, aZ a0), (4, aG r13), (5, vi i14)], ac [], 0⟩
   have hc18 : decide (i14 < (r13.length : Int)) = true := decide_eq_true hgo16
   refine aF ?_
   refine al ⟨tab [(1, aZ a0), (4, aG r13), (5, vi i14), (44, vi (r13.length : Int)), (45, vb (decide (i14 < (r13.length : Int))))], ac [], 0⟩ ?_ ?_
   ·
    iterate 2 refine q1 _ ?_
    refine step (v := vi (r13.length : Int)) (bG (xs := r13) (e := eapi_Port) rfl) ?_
    refine q1 _ ?_
    exact nR []
   refine cz 44 rfl fun hB15 => ?_
   refine aU (t := decide (i14 < (r13.length : Int))) rfl hc18 ?_
   refine bd ?_
   refine aF ?_
   refine bz ?_
   obtain ⟨x20, hx20, h⟩ := aw h
   obtain ⟨r21, hr21, h⟩ := aw h
   refine al ⟨tab [(1, aZ a0), (4, aG r13), (5, vi i14), (55, vb (decide (r21 < 0)))], ac [], 0⟩ ?_ ?_
   ·
    iterate 3 refine q1 _ ?_
    refine step (v := bI x20) (b4 (xs := r13) (e := eapi_Port) hx20 rfl rfl) ?_
    iterate 2 refine q1 _ ?_
    refine bx (r := .int .i64 r21) (aI (aI aS.nil')) (oe hr21) ?_
    refine q1 _ ?_
    exact nR []
   by_cases hc22 : decide (r21 < 0) = true
   ·
    replace h := aO hc22 h
    refine aU (t := decide (r21 < 0)) rfl hc22 ?_
    refine al ⟨tab [(2, vi 12)], ac [], 0⟩ ?_ ?_
    ·
     refine q1 _ ?_
     exact nR []
    obtain ⟨r23, kr23, hr⟩ := co (o := some 12) (g := Br.ret) h
    subst hr
    have h := kr23
    have hh := ar h
    subst hh
    refine aN ?_
    refine And.intro (fun hn => nomatch hn) ?_
    intro hq
    have hq := hq.symm
    subst hq
    show FQ _ _ _ _
    exact bn (.inr rfl) (be (v := vi 12) rfl rfl) (RV.d trivial)
   ·
    replace h := aP hc22 h
    refine aT (t := decide (r21 < 0)) rfl hc22 ?_
    refine bd ?_
    have hh := ar h
    subst hh
    refine bT ⟨tab [(1, aZ a0), (4, aG r13), (5, vi (i14 + 1))], ac [], 0⟩ ?_ ?_
    ·
     refine q1 _ ?_
     refine step (v := vi (i14 + 1)) (cC (cD hinv17 hgo16 hB15) rfl rfl) ?_
     refine q1 _ ?_
     exact nR []
    exact And.intro rfl rfl
  ·
   rintro i14 ⟨⟩ hinv17 hgo16
   show aK _ _ _ _ _ ⟨tab [(1, aZ a0), (4, aG r13), (5, vi i14)], ac [], 0⟩
   have hc18 : ¬ (decide (i14 < (r13.length : Int)) = true) := fun hq => hgo16 (of_decide_eq_true hq)
   refine aF ?_
   refine al ⟨tab [(1, aZ a0), (4, aG r13), (5, vi i14), (45, vb (decide (i14 < (r13.length : Int))))], ac [], 0⟩ ?_ ?_
   ·
    iterate 2 refine q1 _ ?_
    refine step (v := vi (r13.length : Int)) (bG (xs := r13) (e := eapi_Port) rfl) ?_
    refine q1 _ ?_
    exact nR []
   refine aT (t := decide (i14 < (r13.length : Int))) rfl hc18 ?_
   refine aX (s0 := ⟨tab [(4, aG r13)], ac [], 0⟩) (nr []) ?_
   refine cn ?_
   exact And.intro rfl rfl
  ·
   intro r' hq
   subst hq
   exact ar h
  rintro ⟨⟩ rfl
  refine aF ?_
  refine al ⟨tab [(4, aG r13), (6, vi 0)], ac [], 0⟩ ?_ ?_
  ·
   refine q1 _ ?_
   exact nR []
  obtain ⟨q39, hl, h⟩ := aw h
  refine bz ?_
  refine df (cA (r13.length : Int)) (fun (i23 : Int) (qq : Unit) => ⟨tab [(4, aG r13), (6, vi i23)], ac [], 0⟩) 4 (fun (qq : Unit) => ⟨tab [], ac [], 0⟩) bF cB (r := r) hl (by unfold bF; omega) ?_ ?_ ?_ ?_
  ·
   rintro i23 ⟨⟩ xr28 hinv26 hgo25 h
   show aK _ _ _ _ _ ⟨tab [(4, aG r13), (6, vi i23)], ac [], 0⟩
   have hc27 : decide (i23 < (r13.length : Int)) = true := decide_eq_true hgo25
   refine aF ?_
   refine al ⟨tab [(4, aG r13), (6, vi i23), (58, vi (r13.length : Int)), (59, vb (decide (i23 < (r13.length : Int))))], ac [], 0⟩ ?_ ?_
   ·
    iterate 2 refine q1 _ ?_
    refine step (v := vi (r13.length : Int)) (bG (xs := r13) (e := eapi_Port) rfl) ?_
    refine q1 _ ?_
    exact nR []
   refine cz 58 rfl fun hB24 => ?_
   refine aU (t := decide (i23 < (r13.length : Int))) rfl hc27 ?_
   refine bd ?_
   refine aF ?_
   refine bz ?_
   refine al ⟨tab [(4, aG r13), (6, vi i23), (7, vi 0)], ac [], 0⟩ ?_ ?_
   ·
    refine q1 _ ?_
    exact nR []
   obtain ⟨q38, hl, h⟩ := aw h
   refine bz ?_
   refine df (cA i23) (fun (i29 : Int) (qq : Unit) => ⟨tab [(4, aG r13), (6, vi i23), (7, vi i29)], ac [], 0⟩) 6 (fun (qq : Unit) => ⟨tab [(4, aG r13), (6, vi i23)], ac [], 0⟩) bF cB (r := xr28) hl (by unfold bF; omega) ?_ ?_ ?_ ?_
   ·
    rintro i29 ⟨⟩ xr34 hinv32 hgo31 h
    show aK _ _ _ _ _ ⟨tab [(4, aG r13), (6, vi i23), (7, vi i29)], ac [], 0⟩
    have hc33 : decide (i29 < i23) = true := decide_eq_true hgo31
    refine aF ?_
    refine al ⟨tab [(4, aG r13), (6, vi i23), (7, vi i29), (63, vi i23), (64, vb (decide (i29 < i23)))], ac [], 0⟩ ?_ ?_
    ·
     iterate 3 refine q1 _ ?_
     exact nR []
    refine cz 63 rfl fun hB30 => ?_
    refine aU (t := decide (i29 < i23)) rfl hc33 ?_
    refine bd ?_
    refine aF ?_
    refine bz ?_
    obtain ⟨x35, hx35, h⟩ := aw h
    obtain ⟨x36, hx36, h⟩ := aw h
    refine al ⟨tab [(4, aG r13), (6, vi i23), (7, vi i29), (75, vb (x35 == x36))], ac [], 0⟩ ?_ ?_
    ·
     iterate 2 refine q1 _ ?_
     refine step (v := bI x35) (b4 (xs := r13) (e := eapi_Port) hx35 rfl rfl) ?_
     iterate 3 refine q1 _ ?_
     refine step (v := bI x36) (b4 (xs := r13) (e := eapi_Port) hx36 rfl rfl) ?_
     refine q1 _ ?_
     refine step (v := vb (x35 == x36)) (dD (neg := false) rfl rfl (fT x35 x36)) ?_
     exact nR []
    by_cases hc37 : (x35 == x36) = true
    ·
     replace h := aO hc37 h
     refine aU (t := (x35 == x36)) rfl hc37 ?_
     refine al ⟨tab [(2, vi 11)], ac [], 0⟩ ?_ ?_
     ·
      refine q1 _ ?_
      exact nR []
     obtain ⟨r38, kr38, hr⟩ := co (o := some (Br.ret 11)) (g := Br.ret) h
     subst hr
     have h := kr38
     obtain ⟨r39, kr39, hr⟩ := co (o := some 11) (g := Br.ret) h
     subst hr
     have h := kr39
     have hh := ar h
     subst hh
     refine aN ?_
     refine And.intro (fun hn => nomatch hn) ?_
     intro hq
     have hq := hq.symm
     subst hq
     refine And.intro (fun hn => nomatch hn) ?_
     intro hq
     have hq := hq.symm
     subst hq
     show FQ _ _ _ _
     exact bn (.inr rfl) (be (v := vi 11) rfl rfl) (RV.d trivial)
    ·
     replace h := aP hc37 h
     refine aT (t := (x35 == x36)) rfl hc37 ?_
     refine bd ?_
     have hh := ar h
     subst hh
     refine bT ⟨tab [(4, aG r13), (6, vi i23), (7, vi (i29 + 1))], ac [], 0⟩ ?_ ?_
     ·
      refine q1 _ ?_
      refine step (v := vi (i29 + 1)) (cC (cD hinv32 hgo31 hB30) rfl rfl) ?_
      refine q1 _ ?_
      exact nR []
     exact And.intro rfl rfl
   ·
    rintro i29 ⟨⟩ hinv32 hgo31
    show aK _ _ _ _ _ ⟨tab [(4, aG r13), (6, vi i23), (7, vi i29)], ac [], 0⟩
    have hc33 : ¬ (decide (i29 < i23) = true) := fun hq => hgo31 (of_decide_eq_true hq)
    refine aF ?_
    refine al ⟨tab [(4, aG r13), (6, vi i23), (7, vi i29), (64, vb (decide (i29 < i23)))], ac [], 0⟩ ?_ ?_
    ·
     iterate 3 refine q1 _ ?_
     exact nR []
    refine aT (t := decide (i29 < i23)) rfl hc33 ?_
    refine aX (s0 := ⟨tab [(4, aG r13), (6, vi i23)], ac [], 0⟩) (nr []) ?_
    refine cn ?_
    exact And.intro rfl rfl
   ·
    intro r' hq
    subst hq
    exact ar h
   rintro ⟨⟩ rfl
   have hh := ar h
   subst hh
   refine bT ⟨tab [(4, aG r13), (6, vi (i23 + 1))], ac [], 0⟩ ?_ ?_
   ·
    refine q1 _ ?_
    refine step (v := vi (i23 + 1)) (cC (cD hinv26 hgo25 hB24) rfl rfl) ?_
    refine q1 _ ?_
    exact nR []
   exact And.intro rfl rfl
  ·
   rintro i23 ⟨⟩ hinv26 hgo25
   show aK _ _ _ _ _ ⟨tab [(4, aG r13), (6, vi i23)], ac [], 0⟩
   have hc27 : ¬ (decide (i23 < (r13.length : Int)) = true) := fun hq => hgo25 (of_decide_eq_true hq)
   refine aF ?_
   refine al ⟨tab [(4, aG r13), (6, vi i23), (59, vb (decide (i23 < (r13.length : Int))))], ac [], 0⟩ ?_ ?_
   ·
    iterate 2 refine q1 _ ?_
    refine step (v := vi (r13.length : Int)) (bG (xs := r13) (e := eapi_Port) rfl) ?_
    refine q1 _ ?_
    exact nR []
   refine aT (t := decide (i23 < (r13.length : Int))) rfl hc27 ?_
   refine aX (s0 := ⟨tab [], ac [], 0⟩) (nr []) ?_
   refine cn ?_
   exact And.intro rfl rfl
  ·
   intro r' hq
   subst hq
   exact ar h
  rintro ⟨⟩ rfl
  refine al ⟨tab [(2, vi 0)], ac [], 0⟩ ?_ ?_
  ·
   refine q1 _ ?_
   exact nR []
  have hh := ar h
  subst hh
  refine aN ?_
  show FQ _ _ _ _
  exact bn (.inr rfl) (be (v := vi 0) rfl rfl) (RV.d trivial)
theorem uZ {a0 : api_Topo} {a1 : api_Port} {r : Bool} (h : iN a0 a1 = some r) : PCall Try.prog 46 [eapi_Topo a0, eapi_Port a1] (.bool r) := by
 refine PCall.introN t7 (show 2 ≤ 20 by decide) ?_
 refine aX (s0 := ⟨tab [(0, c7 a0), (1, cq a1)], ac [], 0⟩) (nr []) ?_
 refine al ⟨tab [(2, aZ a0), (3, bI a1)], ac [], 0⟩ ?_ ?_
 ·
  iterate 3 refine q1 _ ?_
  exact nR []
 refine aF ?_
 refine al ⟨tab [(2, aZ a0), (3, bI a1), (5, vi 0)], ac [], 0⟩ ?_ ?_
 ·
  refine q1 _ ?_
  exact nR []
 obtain ⟨q9, hl, h⟩ := aw h
 refine bz ?_
 refine df (cA (a0.Hosts.length : Int)) (fun (i1 : Int) (qq : Unit) => ⟨tab [(2, aZ a0), (3, bI a1), (5, vi i1)], ac [], 0⟩) 0 (fun (qq : Unit) => ⟨tab [], ac [], 0⟩) bF cB (r := r) hl (by unfold bF; omega) ?_ ?_ ?_ ?_
 ·
  rintro i1 ⟨⟩ xr6 hinv4 hgo3 h
  show aK _ _ _ _ _ ⟨tab [(2, aZ a0), (3, bI a1), (5, vi i1)], ac [], 0⟩
  have hc5 : decide (i1 < (a0.Hosts.length : Int)) = true := decide_eq_true hgo3
  refine aF ?_
  refine al ⟨tab [(2, aZ a0), (3, bI a1), (5, vi i1), (9, vi (a0.Hosts.length : Int)), (10, vb (decide (i1 < (a0.Hosts.length : Int))))], ac [], 0⟩ ?_ ?_
  ·
   iterate 3 refine q1 _ ?_
   refine step (v := vi (a0.Hosts.length : Int)) (bG (xs := a0.Hosts) (e := eapi_Port) rfl) ?_
   refine q1 _ ?_
   exact nR []
  refine cz 9 rfl fun hB2 => ?_
  refine aU (t := decide (i1 < (a0.Hosts.length : Int))) rfl hc5 ?_
  refine bd ?_
  refine aF ?_
  refine bz ?_
  obtain ⟨x7, hx7, h⟩ := aw h
  refine al ⟨tab [(2, aZ a0), (3, bI a1), (5, vi i1), (19, vb (x7 == a1))], ac [], 0⟩ ?_ ?_
  ·
   iterate 3 refine q1 _ ?_
   refine step (v := bI x7) (b4 (xs := a0.Hosts) (e := eapi_Port) hx7 rfl rfl) ?_
   iterate 2 refine q1 _ ?_
   refine step (v := vb (x7 == a1)) (dD (neg := false) rfl rfl (fT x7 a1)) ?_
   exact nR []
  by_cases hc8 : (x7 == a1) = true
  ·
   replace h := aO hc8 h
   refine aU (t := (x7 == a1)) rfl hc8 ?_
   refine al ⟨tab [(4, vb true)], ac [], 0⟩ ?_ ?_
   ·
    refine q1 _ ?_
    exact nR []
   obtain ⟨r9, kr9, hr⟩ := co (o := some true) (g := Br.ret) h
   subst hr
   have h := kr9
   have hh := ar h
   subst hh
   refine aN ?_
   refine And.intro (fun hn => nomatch hn) ?_
   intro hq
   have hq := hq.symm
   subst hq
   show FQ _ _ _ _
   exact bn (.inr rfl) (be (v := vb true) rfl rfl) (RV.d trivial)
  ·
   replace h := aP hc8 h
   refine aT (t := (x7 == a1)) rfl hc8 ?_
   refine bd ?_
   have hh := ar h
   subst hh
   refine bT ⟨tab [(2, aZ a0), (3, bI a1), (5, vi (i1 + 1))], ac [], 0⟩ ?_ ?_
   ·
    refine q1 _ ?_
    refine step (v := vi (i1 + 1)) (cC (cD hinv4 hgo3 hB2) rfl rfl) ?_
    refine q1 _ ?_
    exact nR []
   exact And.intro rfl rfl
 ·
  rintro i1 ⟨⟩ hinv4 hgo3
  show aK _ _ _ _ _ ⟨tab [(2, aZ a0), (3, bI a1), (5, vi i1)], ac [], 0⟩
  have hc5 : ¬ (decide (i1 < (a0.Hosts.length : Int)) = true) := fun hq => hgo3 (of_decide_eq_true hq)
  refine aF ?_
  refine al ⟨tab [(2, aZ a0), (3, bI a1), (5, vi i1), (10, vb (decide (i1 < (a0.Hosts.length : Int))))], ac [], 0⟩ ?_ ?_
  ·
   iterate 3 refine q1 _ ?_
   refine step (v := vi (a0.Hosts.length : Int)) (bG (xs := a0.Hosts) (e := eapi_Port) rfl) ?_
   refine q1 _ ?_
   exact nR []
  refine aT (t := decide (i1 < (a0.Hosts.length : Int))) rfl hc5 ?_
  refine aX (s0 := ⟨tab [], ac [], 0⟩) (nr []) ?_
  refine cn ?_
  exact And.intro rfl rfl
 ·
  intro r' hq
  subst hq
  exact ar h
 rintro ⟨⟩ rfl
 refine al ⟨tab [(4, vb false)], ac [], 0⟩ ?_ ?_
 ·
  refine q1 _ ?_
  exact nR []
 have hh := ar h
 subst hh
 refine aN ?_
 show FQ _ _ _ _
 exact bn (.inr rfl) (be (v := vb false) rfl rfl) (RV.d trivial)
theorem u0 {a0 : api_Topo} {a1 : api_Port} {r : (api_Port × Bool)} (h : gZ a0 a1 = some r) : PCall Try.prog 47 [eapi_Topo a0, eapi_Port a1] (.tup [eapi_Port r.1, .bool r.2]) := by
 refine PCall.introN ua (show 2 ≤ 43 by decide) ?_
 refine aX (s0 := ⟨tab [(0, c7 a0), (1, cq a1)], ac [], 0⟩) (nr []) ?_
 refine al ⟨tab [(2, aZ a0), (3, bI a1), (4, .ptr 0 0 0)], ac [(0, bJ)], 1⟩ ?_ ?_
 ·
  iterate 2 refine q1 _ ?_
  refine step (v := .ptr 0 0 0) (σ' := (ak (ac []) 0 (some (bJ)))) (n' := 1) rfl ?_
  refine q1 _ ?_
  exact nR [0]
 refine aF ?_
 refine al ⟨tab [(2, aZ a0), (3, bI a1), (4, .ptr 0 0 0), (6, vi 0)], ac [(0, bJ)], 1⟩ ?_ ?_
 ·
  refine q1 _ ?_
  exact nR [0]
 obtain ⟨q10, hl, h⟩ := aw h
 refine bz ?_
 refine df (cA (a0.Links.length : Int)) (fun (i1 : Int) (qq : Unit) => ⟨tab [(2, aZ a0), (3, bI a1), (4, .ptr 0 0 0), (6, vi i1)], ac [(0, bJ)], 1⟩) 0 (fun (qq : Unit) => ⟨tab [(4, .ptr 0 0 0)], ac [(0, bJ)], 1⟩) bF cB (r := r) hl (by unfold bF; omega) ?_ ?_ ?_ ?_
 ·
  rintro i1 ⟨⟩ xr6 hinv4 hgo3 h
  show aK _ _ _ _ _ ⟨tab [(2, aZ a0), (3, bI a1), (4, .ptr 0 0 0), (6, vi i1)], ac [(0, bJ)], 1⟩
  have hc5 : decide (i1 < (a0.Links.length : Int)) = true := decide_eq_true hgo3
  refine aF ?_
  refine al ⟨tab [(2, aZ a0), (3, bI a1), (4, .ptr 0 0 0), (6, vi i1), (10, vi (a0.Links.length : Int)), (11, vb (decide (i1 < (a0.Links.length : Int))))], ac [(0, bJ)], 1⟩ ?_ ?_
  ·
   iterate 3 refine q1 _ ?_
   refine step (v := vi (a0.Links.length : Int)) (bG (xs := a0.Links) (e := (b9 eapi_Port)) rfl) ?_
   refine q1 _ ?_
   exact nR [0]
  refine cz 10 rfl fun hB2 => ?_
  refine aU (t := decide (i1 < (a0.Links.length : Int))) rfl hc5 ?_
  refine bd ?_
  refine aF ?_
  refine bz ?_
  refine aF ?_
  obtain ⟨x7, hx7, h⟩ := aw h
  refine al ⟨tab [(2, aZ a0), (3, bI a1), (4, .ptr 0 0 0), (6, vi i1), (21, vb (x7.a0 == a1))], ac [(0, bJ)], 1⟩ ?_ ?_
  ·
   iterate 3 refine q1 _ ?_
   refine step (v := .d (.cptr (some 4) (b9 eapi_Port x7) 0)) (b4 (xs := a0.Links) (e := (b9 eapi_Port)) hx7 rfl rfl) ?_
   iterate 3 refine q1 _ ?_
   refine step (v := vb (x7.a0 == a1)) (dD (neg := false) rfl rfl (fT x7.a0 a1)) ?_
   exact nR [0]
  by_cases hc8 : (x7.a0 == a1) = true
  ·
   replace h := aO hc8 h
   refine aU (t := (x7.a0 == a1)) rfl hc8 ?_
   refine al ⟨tab [(4, .ptr 0 0 0), (5, vb true)], ac [(0, .var [vh x7.a1.Sw, vh x7.a1.Pt])], 1⟩ ?_ ?_
   ·
    iterate 3 refine q1 _ ?_
    refine step (v := .d (.cptr (some 4) (b9 eapi_Port x7) 0)) (b4 (xs := a0.Links) (e := (b9 eapi_Port)) hx7 rfl rfl) ?_
    iterate 2 refine q1 _ ?_
    refine step (v := V.undef) (σ' := (ak (ac [(0, bJ)]) 0 (some (.var [vh x7.a1.Sw, vh x7.a1.Pt])))) (n' := 1) rfl ?_
    refine q1 _ ?_
    exact nR [0]
   obtain ⟨r9, kr9, hr⟩ := co (o := some (x7.a1, true)) (g := Br.ret) h
   subst hr
   have h := kr9
   have hh := ar h
   subst hh
   refine aN ?_
   refine And.intro (fun hn => nomatch hn) ?_
   intro hq
   have hq := hq.symm
   subst hq
   show FQ _ _ _ _
   exact dF (.inr rfl) (en (ds := [.int .u16 x7.a1.Sw, .int .u16 x7.a1.Pt]) rfl rfl (show 2 ≤ 2 by decide) rfl (be (v := vb true) rfl rfl)) (RV.d (RV.d trivial))
  ·
   replace h := aP hc8 h
   refine aT (t := (x7.a0 == a1)) rfl hc8 ?_
   refine bd ?_
   refine al ⟨tab [(2, aZ a0), (3, bI a1), (4, .ptr 0 0 0), (6, vi i1), (35, vb (x7.a1 == a1))], ac [(0, bJ)], 1⟩ ?_ ?_
   ·
    iterate 3 refine q1 _ ?_
    refine step (v := .d (.cptr (some 4) (b9 eapi_Port x7) 0)) (b4 (xs := a0.Links) (e := (b9 eapi_Port)) hx7 rfl rfl) ?_
    iterate 3 refine q1 _ ?_
    refine step (v := vb (x7.a1 == a1)) (dD (neg := false) rfl rfl (fT x7.a1 a1)) ?_
    exact nR [0]
   by_cases hc9 : (x7.a1 == a1) = true
   ·
    replace h := aO hc9 h
    refine aU (t := (x7.a1 == a1)) rfl hc9 ?_
    refine al ⟨tab [(4, .ptr 0 0 0), (5, vb true)], ac [(0, .var [vh x7.a0.Sw, vh x7.a0.Pt])], 1⟩ ?_ ?_
    ·
     iterate 3 refine q1 _ ?_
     refine step (v := .d (.cptr (some 4) (b9 eapi_Port x7) 0)) (b4 (xs := a0.Links) (e := (b9 eapi_Port)) hx7 rfl rfl) ?_
     iterate 2 refine q1 _ ?_
     refine step (v := V.undef) (σ' := (ak (ac [(0, bJ)]) 0 (some (.var [vh x7.a0.Sw, vh x7.a0.Pt])))) (n' := 1) rfl ?_
     refine q1 _ ?_
     exact nR [0]
    obtain ⟨r10, kr10, hr⟩ := co (o := some (x7.a0, true)) (g := Br.ret) h
    subst hr
    have h := kr10
    have hh := ar h
    subst hh
    refine aN ?_
    refine And.intro (fun hn => nomatch hn) ?_
    intro hq
    have hq := hq.symm
    subst hq
    show FQ _ _ _ _
    exact dF (.inr rfl) (en (ds := [.int .u16 x7.a0.Sw, .int .u16 x7.a0.Pt]) rfl rfl (show 2 ≤ 2 by decide) rfl (be (v := vb true) rfl rfl)) (RV.d (RV.d trivial))
   ·
    replace h := aP hc9 h
    refine aT (t := (x7.a1 == a1)) rfl hc9 ?_
    refine bd ?_
    have hh := ar h
    subst hh
    refine bT ⟨tab [(2, aZ a0), (3, bI a1), (4, .ptr 0 0 0), (6, vi (i1 + 1))], ac [(0, bJ)], 1⟩ ?_ ?_
    ·
     refine q1 _ ?_
     refine step (v := vi (i1 + 1)) (cC (cD hinv4 hgo3 hB2) rfl rfl) ?_
     refine q1 _ ?_
     exact nR [0]
    exact And.intro rfl rfl
 ·
  rintro i1 ⟨⟩ hinv4 hgo3
  show aK _ _ _ _ _ ⟨tab [(2, aZ a0), (3, bI a1), (4, .ptr 0 0 0), (6, vi i1)], ac [(0, bJ)], 1⟩
  have hc5 : ¬ (decide (i1 < (a0.Links.length : Int)) = true) := fun hq => hgo3 (of_decide_eq_true hq)
  refine aF ?_
  refine al ⟨tab [(2, aZ a0), (3, bI a1), (4, .ptr 0 0 0), (6, vi i1), (11, vb (decide (i1 < (a0.Links.length : Int))))], ac [(0, bJ)], 1⟩ ?_ ?_
  ·
   iterate 3 refine q1 _ ?_
   refine step (v := vi (a0.Links.length : Int)) (bG (xs := a0.Links) (e := (b9 eapi_Port)) rfl) ?_
   refine q1 _ ?_
   exact nR [0]
  refine aT (t := decide (i1 < (a0.Links.length : Int))) rfl hc5 ?_
  refine aX (s0 := ⟨tab [(4, .ptr 0 0 0)], ac [(0, bJ)], 1⟩) (nr [0]) ?_
  refine cn ?_
  exact And.intro rfl rfl
 ·
  intro r' hq
  subst hq
  exact ar h
 rintro ⟨⟩ rfl
 refine al ⟨tab [(4, .ptr 0 0 0), (5, vb false)], ac [(0, bJ)], 1⟩ ?_ ?_
 ·
  refine step (v := cq (api_Port.mk 0 0)) (cO (ds := [.int .u16 0, .int .u16 0]) rfl) ?_
  refine step (v := V.undef) (σ' := (ak (ac [(0, bJ)]) 0 (some (bJ)))) (n' := 1) rfl ?_
  refine q1 _ ?_
  exact nR [0]
 have hh := ar h
 subst hh
 refine aN ?_
 show FQ _ _ _ _
 exact dF (.inr rfl) (en (ds := [.int .u16 0, .int .u16 0]) rfl rfl (show 2 ≤ 2 by decide) rfl (be (v := vb false) rfl rfl)) (RV.d (RV.d trivial))
theorem c_law14_WalkEnds {a0 : api_Topo} {a1 : (A8 Int)} {r : Bool} (h : law14_WalkEnds a0 a1 = some r) : PCall Try.prog 11 [eapi_Topo a0, eA8 (D.int .u16) a1] (.bool r) := by
 refine PCall.introN uc (show 2 ≤ 73 by decide) ?_
 refine aX (s0 := ⟨tab [(0, c7 a0), (1, .d (eA8 (D.int .u16) a1))], ac [], 0⟩) (nr []) ?_
 refine al ⟨tab [(2, aZ a0), (3, .d (.cptr (some 8) (eA8 (D.int .u16) a1) 0))], ac [], 0⟩ ?_ ?_
 ·
  iterate 3 refine q1 _ ?_
  exact nR []
 refine aF ?_
 obtain ⟨r1, hr1, h⟩ := aw h
 refine al ⟨tab [(2, aZ a0), (3, .d (.cptr (some 8) (eA8 (D.int .u16) a1) 0)), (12, vb (!r1))], ac [], 0⟩ ?_ ?_
 ·
  refine bx (r := .bool r1) aS.nil' (uW hr1) ?_
  refine q1 _ ?_
  exact nR []
 by_cases hc2 : (!r1) = true
 ·
  replace h := aO hc2 h
  refine aU (t := (!r1)) rfl hc2 ?_
  refine al ⟨tab [(4, vb false)], ac [], 0⟩ ?_ ?_
  ·
   refine q1 _ ?_
   exact nR []
  have hh := ar h
  subst hh
  refine aN ?_
  show FQ _ _ _ _
  exact bn (.inr rfl) (be (v := vb false) rfl rfl) (RV.d trivial)
 ·
  replace h := aP hc2 h
  refine aT (t := (!r1)) rfl hc2 ?_
  refine bd ?_
  refine aF ?_
  obtain ⟨r3, hr3, h⟩ := aw h
  refine al ⟨tab [(2, aZ a0), (3, .d (.cptr (some 8) (eA8 (D.int .u16) a1) 0)), (15, vb (r3 != 0))], ac [], 0⟩ ?_ ?_
  ·
   refine q1 _ ?_
   refine bx (r := .int .i64 r3) (aI aS.nil') (uY hr3) ?_
   refine q1 _ ?_
   exact nR []
  by_cases hc4 : (r3 != 0) = true
  ·
   replace h := aO hc4 h
   refine aU (t := (r3 != 0)) rfl hc4 ?_
   refine al ⟨tab [(4, vb true)], ac [], 0⟩ ?_ ?_
   ·
    refine q1 _ ?_
    exact nR []
   have hh := ar h
   subst hh
   refine aN ?_
   show FQ _ _ _ _
   exact bn (.inr rfl) (be (v := vb true) rfl rfl) (RV.d trivial)
  ·
   replace h := aP hc4 h
   refine aT (t := (r3 != 0)) rfl hc4 ?_
   refine bd ?_
   obtain ⟨r5, hr5, h⟩ := aw h
   refine al ⟨tab [(2, aZ a0), (3, .d (.cptr (some 8) (eA8 (D.int .u16) a1) 0)), (5, .ptr 0 0 0), (6, vi r5.2)], ac [(0, .var [vh r5.1.a0, vh r5.1.a1, vh r5.1.a2, vh r5.1.a3, vh r5.1.a4, vh r5.1.a5, vh r5.1.a6, vh r5.1.a7])], 1⟩ ?_ ?_
   ·
    iterate 2 refine q1 _ ?_
    refine bx (r := .tup [eA8 (D.int .u16) r5.1, .int .i64 r5.2]) (aI (aI aS.nil')) (hE hr5) ?_
    iterate 3 refine q1 _ ?_
    refine step (v := .ptr 0 0 0) (σ' := (ak (ac []) 0 (some (bR)))) (n' := 1) rfl ?_
    refine step (v := V.undef) (σ' := (ak (ak (ac []) 0 (some (bR))) 0 (some (.var [vh r5.1.a0, vh r5.1.a1, vh r5.1.a2, vh r5.1.a3, vh r5.1.a4, vh r5.1.a5, vh r5.1.a6, vh r5.1.a7])))) (n' := 1) rfl ?_
    refine q1 _ ?_
    exact nR [0]
   refine aF ?_
   refine al ⟨tab [(2, aZ a0), (3, .d (.cptr (some 8) (eA8 (D.int .u16) a1) 0)), (5, .ptr 0 0 0), (6, vi r5.2), (22, vi r5.2)], ac [(0, .var [vh r5.1.a0, vh r5.1.a1, vh r5.1.a2, vh r5.1.a3, vh r5.1.a4, vh r5.1.a5, vh r5.1.a6, vh r5.1.a7])], 1⟩ ?_ ?_
   ·
    refine q1 _ ?_
    exact nR [0]
   refine bz ?_
   refine al ⟨tab [(2, aZ a0), (3, .d (.cptr (some 8) (eA8 (D.int .u16) a1) 0)), (5, .ptr 0 0 0), (6, vi r5.2), (22, vi r5.2), (23, vb (r5.2 == 0))], ac [(0, .var [vh r5.1.a0, vh r5.1.a1, vh r5.1.a2, vh r5.1.a3, vh r5.1.a4, vh r5.1.a5, vh r5.1.a6, vh r5.1.a7])], 1⟩ ?_ ?_
   ·
    iterate 2 refine q1 _ ?_
    exact nR [0]
   by_cases hc6 : (r5.2 == 0) = true
   ·
    replace h := aO hc6 h
    refine aU (t := (r5.2 == 0)) rfl hc6 ?_
    obtain ⟨r7, hr7, h⟩ := aw h
    refine al ⟨tab [(3, .d (.cptr (some 8) (eA8 (D.int .u16) a1) 0)), (7, .ptr 0 0 0), (8, vi r7.2)], ac [(0, .var [vh r7.1.a0, vh r7.1.a1, vh r7.1.a2, vh r7.1.a3, vh r7.1.a4, vh r7.1.a5, vh r7.1.a6, vh r7.1.a7])], 1⟩ ?_ ?_
    ·
     refine q1 _ ?_
     refine step (v := .d (eA8 (D.int .u16) r5.1)) (b5 (ds := [.int .u16 r5.1.a0, .int .u16 r5.1.a1, .int .u16 r5.1.a2, .int .u16 r5.1.a3, .int .u16 r5.1.a4, .int .u16 r5.1.a5, .int .u16 r5.1.a6, .int .u16 r5.1.a7]) rfl rfl (show 8 ≤ 8 by decide) rfl) ?_
     refine bx (r := .tup [eA8 (D.int .u16) r7.1, .int .i64 r7.2]) (aI (aI aS.nil')) (hE hr7) ?_
     iterate 3 refine q1 _ ?_
     refine step (v := .ptr 1 0 0) (σ' := (ak (ac [(0, .var [vh r5.1.a0, vh r5.1.a1, vh r5.1.a2, vh r5.1.a3, vh r5.1.a4, vh r5.1.a5, vh r5.1.a6, vh r5.1.a7])]) 1 (some (bR)))) (n' := 2) rfl ?_
     refine step (v := V.undef) (σ' := (ak (ak (ac [(0, .var [vh r5.1.a0, vh r5.1.a1, vh r5.1.a2, vh r5.1.a3, vh r5.1.a4, vh r5.1.a5, vh r5.1.a6, vh r5.1.a7])]) 1 (some (bR))) 1 (some (.var [vh r7.1.a0, vh r7.1.a1, vh r7.1.a2, vh r7.1.a3, vh r7.1.a4, vh r7.1.a5, vh r7.1.a6, vh r7.1.a7])))) (n' := 2) rfl ?_
     refine q1 _ ?_
     exact nR [1]
    refine al ⟨tab [(4, vb ((r7.2 == 0) && (r7.1 == a1)))], ac [], 0⟩ ?_ ?_
    ·
     iterate 3 refine q1 _ ?_
     by_cases hg8 : (r7.2 == 0) = true
     ·
      refine qG _ hg8 ?_
      refine step (v := .d (eA8 (D.int .u16) r7.1)) (b5 (ds := [.int .u16 r7.1.a0, .int .u16 r7.1.a1, .int .u16 r7.1.a2, .int .u16 r7.1.a3, .int .u16 r7.1.a4, .int .u16 r7.1.a5, .int .u16 r7.1.a6, .int .u16 r7.1.a7]) rfl rfl (show 8 ≤ 8 by decide) rfl) ?_
      refine qG _ hg8 ?_
      refine q1 _ ?_
      refine qG _ hg8 ?_
      refine step (v := vb (r7.1 == a1)) (dD (neg := false) rfl rfl (fS r7.1 a1)) ?_
      refine step (v := vb (r7.1 == a1)) (bD (b := (r7.2 == 0)) rfl hg8 rfl) ?_
      refine q1 _ ?_
      exact bh.nil' (nm [] ⟨.eq (by first | (simp [hg8]; done) | (simp_all; done) | grind), trivial⟩ trivial)
     ·
      iterate 3 refine qX _ hg8 ?_
      refine step (v := vb false) (bu (b := (r7.2 == 0)) rfl hg8 rfl) ?_
      refine q1 _ ?_
      exact bh.nil' (nm [] ⟨.eq (by first | (simp [hg8]; done) | (simp_all; done) | grind), trivial⟩ trivial)
    have hh := ar h
    subst hh
    refine aN ?_
    show FQ _ _ _ _
    exact bn (.inr rfl) (be (v := vb ((r7.2 == 0) && (r7.1 == a1))) rfl rfl) (RV.d trivial)
   ·
    replace h := aP hc6 h
    refine aT (t := (r5.2 == 0)) rfl hc6 ?_
    refine al ⟨tab [(2, aZ a0), (3, .d (.cptr (some 8) (eA8 (D.int .u16) a1) 0)), (5, .ptr 0 0 0), (6, vi r5.2), (38, vb (r5.2 == 1))], ac [(0, .var [vh r5.1.a0, vh r5.1.a1, vh r5.1.a2, vh r5.1.a3, vh r5.1.a4, vh r5.1.a5, vh r5.1.a6, vh r5.1.a7])], 1⟩ ?_ ?_
    ·
     iterate 2 refine q1 _ ?_
     exact nR [0]
    by_cases hc9 : (r5.2 == 1) = true
    ·
     replace h := aO hc9 h
     refine aU (t := (r5.2 == 1)) rfl hc9 ?_
     obtain ⟨y12, hv, h⟩ := aw h
     refine al ⟨tab [(4, vb y12)], ac [], 0⟩ ?_ ?_
     ·
      refine step (v := .d (eA8 (D.int .u16) r5.1)) (b5 (ds := [.int .u16 r5.1.a0, .int .u16 r5.1.a1, .int .u16 r5.1.a2, .int .u16 r5.1.a3, .int .u16 r5.1.a4, .int .u16 r5.1.a5, .int .u16 r5.1.a6, .int .u16 r5.1.a7]) rfl rfl (show 8 ≤ 8 by decide) rfl) ?_
      refine q1 _ ?_
      refine step (v := vb (r5.1 == a1)) (dD (neg := false) rfl rfl (fS r5.1 a1)) ?_
      refine q1 _ ?_
      by_cases hg10 : (r5.1 == a1) = true
      ·
       replace hv := aO hg10 hv
       obtain ⟨r11, hr11, hv⟩ := aw hv
       refine qG _ hg10 ?_
       refine q1 _ ?_
       refine qG _ hg10 ?_
       refine q1 _ ?_
       refine qG _ hg10 ?_
       refine q1 _ ?_
       refine qG _ hg10 ?_
       refine q1 _ ?_
       refine qG _ hg10 ?_
       refine q1 _ ?_
       refine qG _ hg10 ?_
       refine step (v := cq (api_Port.mk a1.a0 a1.a1)) (cO (ds := [.int .u16 a1.a0, .int .u16 a1.a1]) rfl) ?_
       refine qG _ hg10 ?_
       refine bx (r := .bool r11) (aI (aI aS.nil')) (uZ hr11) ?_
       refine step (v := vb r11) (bD (b := (r5.1 == a1)) rfl hg10 rfl) ?_
       refine q1 _ ?_
       have hh := ar hv
       subst hh
       exact nR []
      ·
       replace hv := aP hg10 hv
       iterate 7 refine qX _ hg10 ?_
       refine step (v := vb false) (bu (b := (r5.1 == a1)) rfl hg10 rfl) ?_
       refine q1 _ ?_
       have hh := ar hv
       subst hh
       exact nR []
     have hh := ar h
     subst hh
     refine aN ?_
     show FQ _ _ _ _
     exact bn (.inr rfl) (be (v := vb y12) rfl rfl) (RV.d trivial)
    ·
     replace h := aP hc9 h
     refine aT (t := (r5.2 == 1)) rfl hc9 ?_
     refine bd ?_
     obtain ⟨r14, hr14, h⟩ := aw h
     refine al ⟨tab [(3, .d (.cptr (some 8) (eA8 (D.int .u16) a1) 0)), (5, .ptr 0 0 0), (6, vi r5.2), (10, vb r14.2)], ac [(0, .var [vh r5.1.a0, vh r5.1.a1, vh r5.1.a2, vh r5.1.a3, vh r5.1.a4, vh r5.1.a5, vh r5.1.a6, vh r5.1.a7])], 1⟩ ?_ ?_
     ·
      iterate 5 refine q1 _ ?_
      refine step (v := cq (api_Port.mk a1.a0 a1.a1)) (cO (ds := [.int .u16 a1.a0, .int .u16 a1.a1]) rfl) ?_
      refine bx (r := .tup [eapi_Port r14.1, .bool r14.2]) (aI (aI aS.nil')) (u0 hr14) ?_
      iterate 3 refine q1 _ ?_
      refine step (v := .ptr 1 0 0) (σ' := (ak (ac [(0, .var [vh r5.1.a0, vh r5.1.a1, vh r5.1.a2, vh r5.1.a3, vh r5.1.a4, vh r5.1.a5, vh r5.1.a6, vh r5.1.a7])]) 1 (some (bJ)))) (n' := 2) rfl ?_
      refine step (v := V.undef) (σ' := (ak (ak (ac [(0, .var [vh r5.1.a0, vh r5.1.a1, vh r5.1.a2, vh r5.1.a3, vh r5.1.a4, vh r5.1.a5, vh r5.1.a6, vh r5.1.a7])]) 1 (some (bJ))) 1 (some (.var [vh r14.1.Sw, vh r14.1.Pt])))) (n' := 2) rfl ?_
      refine q1 _ ?_
      exact nR [0]
     refine al ⟨tab [(4, vb ((r5.2 == 2) && ((r5.1 == a1) && (!r14.2))))], ac [], 0⟩ ?_ ?_
     ·
      iterate 3 refine q1 _ ?_
      by_cases hg15 : (r5.2 == 2) = true
      ·
       refine qG _ hg15 ?_
       refine step (v := .d (eA8 (D.int .u16) r5.1)) (b5 (ds := [.int .u16 r5.1.a0, .int .u16 r5.1.a1, .int .u16 r5.1.a2, .int .u16 r5.1.a3, .int .u16 r5.1.a4, .int .u16 r5.1.a5, .int .u16 r5.1.a6, .int .u16 r5.1.a7]) rfl rfl (show 8 ≤ 8 by decide) rfl) ?_
       refine qG _ hg15 ?_
       refine q1 _ ?_
       refine qG _ hg15 ?_
       refine step (v := vb (r5.1 == a1)) (dD (neg := false) rfl rfl (fS r5.1 a1)) ?_
       refine step (v := vb (r5.1 == a1)) (bD (b := (r5.2 == 2)) rfl hg15 rfl) ?_
       refine q1 _ ?_
       by_cases hg16 : (r5.1 == a1) = true
       ·
        refine qG _ hg16 ?_
        refine q1 _ ?_
        refine qG _ hg16 ?_
        refine q1 _ ?_
        refine step (v := vb (!r14.2)) (bD (b := (r5.1 == a1)) rfl hg16 rfl) ?_
        refine q1 _ ?_
        exact bh.nil' (nm [] ⟨.eq (by first | (simp [hg15, hg16]; done) | (simp_all; done) | grind), trivial⟩ trivial)
       ·
        iterate 2 refine qX _ hg16 ?_
        refine step (v := vb false) (bu (b := (r5.1 == a1)) rfl hg16 rfl) ?_
        refine q1 _ ?_
        exact bh.nil' (nm [] ⟨.eq (by first | (simp [hg15, hg16]; done) | (simp_all; done) | grind), trivial⟩ trivial)
      ·
       iterate 3 refine qX _ hg15 ?_
       refine step (v := vb false) (bu (b := (r5.2 == 2)) rfl hg15 rfl) ?_
       refine q1 _ ?_
       iterate 2 refine qX false (by decide) ?_
       refine step (v := vb false) (bu (b := false) rfl (by decide) rfl) ?_
       refine q1 _ ?_
       exact bh.nil' (nm [] ⟨.eq (by first | (simp [hg15]; done) | (simp_all; done) | grind), trivial⟩ trivial)
     have hh := ar h
     subst hh
     refine aN ?_
     show FQ _ _ _ _
     exact bn (.inr rfl) (be (v := vb ((r5.2 == 2) && ((r5.1 == a1) && (!r14.2)))) rfl rfl) (RV.d trivial)
end Go.AM
