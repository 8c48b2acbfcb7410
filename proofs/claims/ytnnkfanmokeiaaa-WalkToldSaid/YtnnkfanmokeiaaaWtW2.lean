import Derived.Test.YtnnkfanmokeiaaaWtW1
set_option linter.unusedVariables false
set_option linter.unusedSimpArgs false
namespace Go.AM
open Go Go.RowKit Go.Proofs
set_option maxRecDepth 10000
attribute [local irreducible] aZ cg
set_option maxHeartbeats 2000000
theorem z8 {a0 : (A8 Int)} {a1 : (A8 Int)} {r : Int} (h : lB a0 a1 = some r) : PCall Try.prog 69 [eA8 (D.int .u16) a0, eA8 (D.int .u16) a1] (.int .i64 r) := by
 refine PCall.introN yn (show 2 ≤ 24 by decide) ?_
 refine bb (s0 := ⟨tab [(0, .d (eA8 (D.int .u16) a0)), (1, .d (eA8 (D.int .u16) a1))], ac [], 0⟩) (nr []) ?_
 refine am ⟨tab [(2, .d (.cptr (some 8) (eA8 (D.int .u16) a0) 0)), (3, .d (.cptr (some 8) (eA8 (D.int .u16) a1) 0))], ac [], 0⟩ ?_ ?_
 ·
  iterate 3 refine q1 _ ?_
  exact nR []
 refine aG ?_
 refine am ⟨tab [(2, .d (.cptr (some 8) (eA8 (D.int .u16) a0) 0)), (3, .d (.cptr (some 8) (eA8 (D.int .u16) a1) 0)), (5, vi 0)], ac [], 0⟩ ?_ ?_
 ·
  refine q1 _ ?_
  exact nR []
 obtain ⟨q11, hl, h⟩ := ay h
 refine bG ?_
 refine dp (cQ 8) (fun (i1 : Int) (qq : Unit) => ⟨tab [(2, .d (.cptr (some 8) (eA8 (D.int .u16) a0) 0)), (3, .d (.cptr (some 8) (eA8 (D.int .u16) a1) 0)), (5, vi i1)], ac [], 0⟩) 0 (fun (qq : Unit) => ⟨tab [], ac [], 0⟩) bK cR (r := r) hl (by unfold bK; omega) ?_ ?_ ?_ ?_
 ·
  rintro i1 ⟨⟩ xr6 hinv4 hgo3 h
  show aI _ _ _ _ _ ⟨tab [(2, .d (.cptr (some 8) (eA8 (D.int .u16) a0) 0)), (3, .d (.cptr (some 8) (eA8 (D.int .u16) a1) 0)), (5, vi i1)], ac [], 0⟩
  have hc5 : decide (i1 < 8) = true := decide_eq_true hgo3
  refine aG ?_
  refine am ⟨tab [(2, .d (.cptr (some 8) (eA8 (D.int .u16) a0) 0)), (3, .d (.cptr (some 8) (eA8 (D.int .u16) a1) 0)), (5, vi i1), (7, vb (decide (i1 < 8)))], ac [], 0⟩ ?_ ?_
  ·
   iterate 2 refine q1 _ ?_
   exact nR []
  refine aY (t := decide (i1 < 8)) rfl hc5 ?_
  refine bh ?_
  refine aG ?_
  refine bG ?_
  refine aG ?_
  obtain ⟨x7, hx7, h⟩ := ay h
  obtain ⟨x8, hx8, h⟩ := ay h
  refine am ⟨tab [(2, .d (.cptr (some 8) (eA8 (D.int .u16) a0) 0)), (3, .d (.cptr (some 8) (eA8 (D.int .u16) a1) 0)), (5, vi i1), (16, vb (decide (x7 < x8)))], ac [], 0⟩ ?_ ?_
  ·
   refine q1 _ ?_
   refine step (v := .d (.cptr (some 8) (eA8 (D.int .u16) a0) (0 + i1.toNat * 1))) (iu (xs := a0.l) hx7 rfl rfl rfl) ?_
   refine step (v := vh x7) (ip rfl (io (e := (D.int .u16)) (xs := a0.l) (pre := []) (post := []) hx7 rfl (by decide))) ?_
   refine q1 _ ?_
   refine step (v := .d (.cptr (some 8) (eA8 (D.int .u16) a1) (0 + i1.toNat * 1))) (iu (xs := a1.l) hx8 rfl rfl rfl) ?_
   refine step (v := vh x8) (ip rfl (io (e := (D.int .u16)) (xs := a1.l) (pre := []) (post := []) hx8 rfl (by decide))) ?_
   refine q1 _ ?_
   exact nR []
  by_cases hc9 : decide (x7 < x8) = true
  ·
   replace h := aO hc9 h
   refine aY (t := decide (x7 < x8)) rfl hc9 ?_
   refine am ⟨tab [(4, vi (-1))], ac [], 0⟩ ?_ ?_
   ·
    refine q1 _ ?_
    exact nR []
   obtain ⟨r10, kr10, hr⟩ := cq (o := some (-1)) (g := Br.ret) h
   subst hr
   have h := kr10
   have hh := aq h
   subst hh
   refine aV ?_
   refine And.intro (fun hn => nomatch hn) ?_
   intro hq
   have hq := hq.symm
   subst hq
   show FQ _ _ _ _
   exact br (.inr rfl) (bg (v := vi (-1)) rfl rfl) (RV.d trivial)
  ·
   replace h := aP hc9 h
   refine aW (t := decide (x7 < x8)) rfl hc9 ?_
   refine bh ?_
   refine am ⟨tab [(2, .d (.cptr (some 8) (eA8 (D.int .u16) a0) 0)), (3, .d (.cptr (some 8) (eA8 (D.int .u16) a1) 0)), (5, vi i1), (23, vb (decide (x7 > x8)))], ac [], 0⟩ ?_ ?_
   ·
    refine q1 _ ?_
    refine step (v := .d (.cptr (some 8) (eA8 (D.int .u16) a0) (0 + i1.toNat * 1))) (iu (xs := a0.l) hx7 rfl rfl rfl) ?_
    refine step (v := vh x7) (ip rfl (io (e := (D.int .u16)) (xs := a0.l) (pre := []) (post := []) hx7 rfl (by decide))) ?_
    refine q1 _ ?_
    refine step (v := .d (.cptr (some 8) (eA8 (D.int .u16) a1) (0 + i1.toNat * 1))) (iu (xs := a1.l) hx8 rfl rfl rfl) ?_
    refine step (v := vh x8) (ip rfl (io (e := (D.int .u16)) (xs := a1.l) (pre := []) (post := []) hx8 rfl (by decide))) ?_
    refine q1 _ ?_
    exact nR []
   by_cases hc10 : decide (x7 > x8) = true
   ·
    replace h := aO hc10 h
    refine aY (t := decide (x7 > x8)) rfl hc10 ?_
    refine am ⟨tab [(4, vi 1)], ac [], 0⟩ ?_ ?_
    ·
     refine q1 _ ?_
     exact nR []
    obtain ⟨r11, kr11, hr⟩ := cq (o := some 1) (g := Br.ret) h
    subst hr
    have h := kr11
    have hh := aq h
    subst hh
    refine aV ?_
    refine And.intro (fun hn => nomatch hn) ?_
    intro hq
    have hq := hq.symm
    subst hq
    show FQ _ _ _ _
    exact br (.inr rfl) (bg (v := vi 1) rfl rfl) (RV.d trivial)
   ·
    replace h := aP hc10 h
    refine aW (t := decide (x7 > x8)) rfl hc10 ?_
    refine bh ?_
    have hh := aq h
    subst hh
    refine bU ⟨tab [(2, .d (.cptr (some 8) (eA8 (D.int .u16) a0) 0)), (3, .d (.cptr (some 8) (eA8 (D.int .u16) a1) 0)), (5, vi (i1 + 1))], ac [], 0⟩ ?_ ?_
    ·
     refine q1 _ ?_
     refine step (v := vi (i1 + 1)) (cL (cM hinv4 hgo3 (by decide)) rfl rfl) ?_
     refine q1 _ ?_
     exact nR []
    exact And.intro rfl rfl
 ·
  rintro i1 ⟨⟩ hinv4 hgo3
  show aI _ _ _ _ _ ⟨tab [(2, .d (.cptr (some 8) (eA8 (D.int .u16) a0) 0)), (3, .d (.cptr (some 8) (eA8 (D.int .u16) a1) 0)), (5, vi i1)], ac [], 0⟩
  have hc5 : ¬ (decide (i1 < 8) = true) := fun hq => hgo3 (of_decide_eq_true hq)
  refine aG ?_
  refine am ⟨tab [(2, .d (.cptr (some 8) (eA8 (D.int .u16) a0) 0)), (3, .d (.cptr (some 8) (eA8 (D.int .u16) a1) 0)), (5, vi i1), (7, vb (decide (i1 < 8)))], ac [], 0⟩ ?_ ?_
  ·
   iterate 2 refine q1 _ ?_
   exact nR []
  refine aW (t := decide (i1 < 8)) rfl hc5 ?_
  refine bb (s0 := ⟨tab [], ac [], 0⟩) (nr []) ?_
  refine cI ?_
  exact And.intro rfl rfl
 ·
  intro r' hq
  subst hq
  exact aq h
 rintro ⟨⟩ rfl
 refine am ⟨tab [(4, vi 0)], ac [], 0⟩ ?_ ?_
 ·
  refine q1 _ ?_
  exact nR []
 have hh := aq h
 subst hh
 refine aV ?_
 show FQ _ _ _ _
 exact br (.inr rfl) (bg (v := vi 0) rfl rfl) (RV.d trivial)
theorem mc {a0 : ai} {a1 : (List Int)} {a2 : (A8 Int)} {r : ((List (A8 Int)) × Int)} (h : iA a0 a1 a2 = some r) : PCall Try.prog 44 [bN a0, eL none (D.int .u16) a1, eA8 (D.int .u16) a2] (.tup [eL (some 8) (eA8 (D.int .u16)) r.1, .int .i64 r.2]) := by
 refine PCall.introN yp (show 3 ≤ 14 by decide) ?_
 refine bb (s0 := ⟨tab [(0, vs1 a0), (1, ar a1), (2, .d (eA8 (D.int .u16) a2))], ac [], 0⟩) (nr []) ?_
 refine am ⟨tab [(1, ar a1), (3, bk a0), (5, .d (.cptr (some 8) (eA8 (D.int .u16) a2) 0))], ac [], 0⟩ ?_ ?_
 ·
  iterate 4 refine q1 _ ?_
  exact nR []
 obtain ⟨r1, hr1, h⟩ := ay h
 refine am ⟨tab [(6, .d (eL (some 8) (eA8 (D.int .u16)) r1.1)), (7, vi r1.2)], ac [], 0⟩ ?_ ?_
 ·
  iterate 3 refine q1 _ ?_
  refine bC (r := .tup [eL (some 8) (eA8 (D.int .u16)) r1.1, .int .i64 r1.2]) (aF (aF (aF aQ.nil'))) (z6 hr1) ?_
  iterate 4 refine q1 _ ?_
  exact nR []
 have hh := aq h
 subst hh
 refine aV ?_
 show FQ _ _ _ _
 exact eE (.inr rfl) (bg (v := .d (eL (some 8) (eA8 (D.int .u16)) r1.1)) rfl (bg (v := vi r1.2) rfl rfl)) (RV.d (RV.d trivial))
theorem sN {a0 : cz} {a1 : (List (A8 Int))} {r : (Int × cz)} (h : j5 a0 a1 = some r) : bY Try.prog 94 [.ptr 0 0 0, .d (eL (some 8) (eA8 (D.int .u16)) a1)] (ac [(0, .var [ar a0.t.Switches, ba a0.t.Links, aL a0.t.Hosts, vi a0.p.Op, vi a0.p.F, vh a0.p.N, ax a0.p.Kids, ar a0.state, .loc 1 0 a0.found.length]), (1, .lst false none (List.map (eL (some 8) (eA8 (D.int .u16))) a0.found))]) 2 (vi r.1) (ac [(0, .var [ar r.2.t.Switches, ba r.2.t.Links, aL r.2.t.Hosts, vi r.2.p.Op, vi r.2.p.F, vh r.2.p.N, ax r.2.p.Kids, ar r.2.state, .loc 2 0 r.2.found.length]), (2, .lst false none (List.map (eL (some 8) (eA8 (D.int .u16))) r.2.found))]) 3 := by
 refine bY.introN (bl := [(0, .var [ar a0.t.Switches, ba a0.t.Links, aL a0.t.Hosts, vi a0.p.Op, vi a0.p.F, vh a0.p.N, ax a0.p.Kids, ar a0.state, .loc 1 0 a0.found.length]), (1, .lst false none (List.map (eL (some 8) (eA8 (D.int .u16))) a0.found))]) (bl' := [(0, .var [ar r.2.t.Switches, ba r.2.t.Links, aL r.2.t.Hosts, vi r.2.p.Op, vi r.2.p.F, vh r.2.p.N, ax r.2.p.Kids, ar r.2.state, .loc 2 0 r.2.found.length]), (2, .lst false none (List.map (eL (some 8) (eA8 (D.int .u16))) r.2.found))]) yr (show 2 ≤ 21 by decide) rfl ?_
 refine bb (s0 := ⟨tab [(0, .ptr 0 0 0), (1, .d (eL (some 8) (eA8 (D.int .u16)) a1))], ac [(0, .var [ar a0.t.Switches, ba a0.t.Links, aL a0.t.Hosts, vi a0.p.Op, vi a0.p.F, vh a0.p.N, ax a0.p.Kids, ar a0.state, .loc 1 0 a0.found.length]), (1, .lst false none (List.map (eL (some 8) (eA8 (D.int .u16))) a0.found))], 2⟩) (nr [0, 1]) ?_
 refine am ⟨tab [(0, .ptr 0 0 0), (1, .d (eL (some 8) (eA8 (D.int .u16)) a1))], ac [(0, .var [ar a0.t.Switches, ba a0.t.Links, aL a0.t.Hosts, vi a0.p.Op, vi a0.p.F, vh a0.p.N, ax a0.p.Kids, ar a0.state, .loc 1 0 a0.found.length]), (1, .lst false none (List.map (eL (some 8) (eA8 (D.int .u16))) a0.found))], 2⟩ ?_ ?_
 ·
  refine q1 _ ?_
  exact nR [0, 1]
 refine aG ?_
 refine am ⟨tab [(0, .ptr 0 0 0), (1, .d (eL (some 8) (eA8 (D.int .u16)) a1)), (10, vb ((a0.found.length : Int) == 200))], ac [(0, .var [ar a0.t.Switches, ba a0.t.Links, aL a0.t.Hosts, vi a0.p.Op, vi a0.p.F, vh a0.p.N, ax a0.p.Kids, ar a0.state, .loc 1 0 a0.found.length]), (1, .lst false none (List.map (eL (some 8) (eA8 (D.int .u16))) a0.found))], 2⟩ ?_ ?_
 ·
  iterate 6 refine q1 _ ?_
  exact nR [0, 1]
 by_cases hc1 : ((a0.found.length : Int) == 200) = true
 ·
  replace h := aO hc1 h
  refine aY (t := ((a0.found.length : Int) == 200)) rfl hc1 ?_
  refine am ⟨tab [(4, vi 24)], ac [(0, .var [ar a0.t.Switches, ba a0.t.Links, aL a0.t.Hosts, vi a0.p.Op, vi a0.p.F, vh a0.p.N, ax a0.p.Kids, ar a0.state, .loc 1 0 a0.found.length]), (1, .lst false none (List.map (eL (some 8) (eA8 (D.int .u16))) a0.found))], 2⟩ ?_ ?_
  ·
   refine q1 _ ?_
   exact nR [0, 1]
  have hh := aq h
  subst hh
  refine bb (s0 := ⟨tab [(4, vi 24)], ac [(0, .var [ar a0.t.Switches, ba a0.t.Links, aL a0.t.Hosts, vi a0.p.Op, vi a0.p.F, vh a0.p.N, ax a0.p.Kids, ar a0.state, .loc 2 0 a0.found.length]), (2, .lst false none (List.map (eL (some 8) (eA8 (D.int .u16))) a0.found))], 3⟩) (mU [0, 1, 1] [0, 2] (by decide) rfl (by decide) (by decide) ⟨.d _, trivial⟩ ⟨⟨show 0 < 3 by decide, _, rfl, .vars ⟨.d _, .d _, .d _, .d _, .d _, .d _, .d _, .d _, .lc 2, trivial⟩⟩, ⟨show 2 < 3 by decide, _, rfl, .lst _ _ _⟩, trivial⟩) ?_
  refine aV ?_
  exact ⟨.inr rfl, _, rfl, rfl, dh.sub ⟨rfl, rfl, trivial⟩, rfl⟩
 ·
  replace h := aP hc1 h
  refine aW (t := ((a0.found.length : Int) == 200)) rfl hc1 ?_
  refine bh ?_
  obtain ⟨l2, hl2, h⟩ := ay h
  refine am ⟨tab [], ac [(0, .var [ar a0.t.Switches, ba a0.t.Links, aL a0.t.Hosts, vi a0.p.Op, vi a0.p.F, vh a0.p.N, ax a0.p.Kids, ar a0.state, .loc 2 0 l2.length]), (2, .lst false none (List.map (eL (some 8) (eA8 (D.int .u16))) l2))], 3⟩ ?_ ?_
  ·
   iterate 7 refine q1 _ ?_
   refine step (v := .loc 2 0 l2.length) (σ' := (al (al (ac [(0, .var [ar a0.t.Switches, ba a0.t.Links, aL a0.t.Hosts, vi a0.p.Op, vi a0.p.F, vh a0.p.N, ax a0.p.Kids, ar a0.state, .loc 1 0 a0.found.length]), (1, .lst false none (List.map (eL (some 8) (eA8 (D.int .u16))) a0.found))]) 1 none) 2 (some (.lst false none (List.map (eL (some 8) (eA8 (D.int .u16))) l2))))) (n' := 3) (eP (xs := a0.found) (ys := ([a1] : List (List (A8 Int)))) (e := (eL (some 8) (eA8 (D.int .u16)))) hl2 rfl rfl rfl (fc (xs := ([a1] : List (List (A8 Int)))) (e := (eL (some 8) (eA8 (D.int .u16)))) rfl)) ?_
   iterate 2 refine q1 _ ?_
   refine step (v := V.undef) (σ' := (al (al (al (ac [(0, .var [ar a0.t.Switches, ba a0.t.Links, aL a0.t.Hosts, vi a0.p.Op, vi a0.p.F, vh a0.p.N, ax a0.p.Kids, ar a0.state, .loc 1 0 a0.found.length]), (1, .lst false none (List.map (eL (some 8) (eA8 (D.int .u16))) a0.found))]) 1 none) 2 (some (.lst false none (List.map (eL (some 8) (eA8 (D.int .u16))) l2)))) 0 (some (.var [ar a0.t.Switches, ba a0.t.Links, aL a0.t.Hosts, vi a0.p.Op, vi a0.p.F, vh a0.p.N, ax a0.p.Kids, ar a0.state, .loc 2 0 l2.length])))) (n' := 3) rfl ?_
   exact nR [0, 1, 2]
  refine am ⟨tab [(4, vi 0)], ac [(0, .var [ar a0.t.Switches, ba a0.t.Links, aL a0.t.Hosts, vi a0.p.Op, vi a0.p.F, vh a0.p.N, ax a0.p.Kids, ar a0.state, .loc 2 0 l2.length]), (2, .lst false none (List.map (eL (some 8) (eA8 (D.int .u16))) l2))], 3⟩ ?_ ?_
  ·
   refine q1 _ ?_
   exact nR [0, 1, 2]
  have hh := aq h
  subst hh
  refine aV ?_
  exact ⟨.inr rfl, _, rfl, rfl, dh.sub ⟨rfl, rfl, trivial⟩, rfl⟩
theorem Aa {a0 : (A8 Int)} {r : api_Port} (h : nF a0 = some r) : PCall Try.prog 71 [eA8 (D.int .u16) a0] (eapi_Port r) := by
 refine PCall.introN yu (show 1 ≤ 8 by decide) ?_
 refine bb (s0 := ⟨tab [(0, .d (eA8 (D.int .u16) a0))], ac [], 0⟩) (nr []) ?_
 refine am ⟨tab [(1, .d (.cptr (some 8) (eA8 (D.int .u16) a0) 0)), (2, .ptr 0 0 0)], ac [(0, .var [vh 0, vh 0])], 1⟩ ?_ ?_
 ·
  refine q1 _ ?_
  refine step (v := .ptr 0 0 0) (σ' := (al (ac []) 0 (some (.var [vh 0, vh 0])))) (n' := 1) rfl ?_
  exact nR [0]
 refine am ⟨tab [(2, .ptr 0 0 0)], ac [(0, .var [vh a0.a0, vh a0.a1])], 1⟩ ?_ ?_
 ·
  iterate 4 refine q1 _ ?_
  refine step (v := dl (api_Port.mk a0.a0 a0.a1)) (de (ds := [.int .u16 a0.a0, .int .u16 a0.a1]) rfl) ?_
  refine step (v := V.undef) (σ' := (al (ac [(0, .var [vh 0, vh 0])]) 0 (some (.var [vh a0.a0, vh a0.a1])))) (n' := 1) rfl ?_
  exact nR [0]
 have hh := aq h
 subst hh
 refine aV ?_
 show FQ _ _ _ _
 exact br (.inr rfl) (ff (ds := [.int .u16 a0.a0, .int .u16 a0.a1]) rfl rfl (show 2 ≤ 2 by decide) rfl rfl) (RV.d trivial)
theorem Ab {a0 : api_Topo} {a1 : api_Port} {r : (api_Port × Bool)} (h : lC a0 a1 = some r) : PCall Try.prog 72 [eapi_Topo a0, eapi_Port a1] (.tup [eapi_Port r.1, .bool r.2]) := by
 refine PCall.introN yx (show 2 ≤ 30 by decide) ?_
 refine bb (s0 := ⟨tab [(0, eG a0), (1, dl a1)], ac [], 0⟩) (nr []) ?_
 refine am ⟨tab [(2, bx a0), (3, cF a1), (4, .ptr 0 0 0)], ac [(0, .var [vh 0, vh 0])], 1⟩ ?_ ?_
 ·
  iterate 2 refine q1 _ ?_
  refine step (v := .ptr 0 0 0) (σ' := (al (ac []) 0 (some (.var [vh 0, vh 0])))) (n' := 1) rfl ?_
  refine q1 _ ?_
  exact nR [0]
 refine aG ?_
 refine am ⟨tab [(3, cF a1), (4, .ptr 0 0 0), (9, ba a0.Links), (10, vi (a0.Links.length : Int)), (11, vi 0)], ac [(0, .var [vh 0, vh 0])], 1⟩ ?_ ?_
 ·
  iterate 2 refine q1 _ ?_
  refine step (v := vi (a0.Links.length : Int)) (bF (xs := a0.Links) (e := (cX eapi_Port)) rfl) ?_
  refine q1 _ ?_
  exact nR [0]
 obtain ⟨q10, hl, h⟩ := ay h
 refine bG ?_
 refine dp (cQ (a0.Links.length : Int)) (fun (i1 : Int) (qq : Unit) => ⟨tab [(3, cF a1), (4, .ptr 0 0 0), (9, ba a0.Links), (10, vi (a0.Links.length : Int)), (11, vi i1)], ac [(0, .var [vh 0, vh 0])], 1⟩) 0 (fun (qq : Unit) => ⟨tab [(4, .ptr 0 0 0)], ac [(0, .var [vh 0, vh 0])], 1⟩) bK cR (r := r) hl (by unfold bK; omega) ?_ ?_ ?_ ?_
 ·
  rintro i1 ⟨⟩ xr6 hinv4 hgo3 h
  show aI _ _ _ _ _ ⟨tab [(3, cF a1), (4, .ptr 0 0 0), (9, ba a0.Links), (10, vi (a0.Links.length : Int)), (11, vi i1)], ac [(0, .var [vh 0, vh 0])], 1⟩
  have hc5 : decide (i1 < (a0.Links.length : Int)) = true := decide_eq_true hgo3
  refine am ⟨tab [(3, cF a1), (4, .ptr 0 0 0), (9, ba a0.Links), (10, vi (a0.Links.length : Int)), (11, vi i1), (12, vb (decide (i1 < (a0.Links.length : Int))))], ac [(0, .var [vh 0, vh 0])], 1⟩ ?_ ?_
  ·
   refine q1 _ ?_
   exact nR [0]
  refine c8 10 rfl fun hB2 => ?_
  refine aG ?_
  refine aY (t := decide (i1 < (a0.Links.length : Int))) rfl hc5 ?_
  refine bh ?_
  refine aG ?_
  refine bG ?_
  obtain ⟨x7, hx7, h⟩ := ay h
  refine am ⟨tab [(3, cF a1), (4, .ptr 0 0 0), (7, .ptr 1 0 0), (9, ba a0.Links), (10, vi (a0.Links.length : Int)), (11, vi i1)], ac [(0, .var [vh 0, vh 0]), (1, .var [vh x7.a0.Sw, vh x7.a0.Pt, vh x7.a1.Sw, vh x7.a1.Pt])], 2⟩ ?_ ?_
  ·
   refine step (v := .d (.cptr (some 4) (cX eapi_Port x7) 0)) (cl (xs := a0.Links) (e := (cX eapi_Port)) hx7 rfl rfl) ?_
   refine q1 _ ?_
   refine step (v := .ptr 1 0 0) (σ' := (al (ac [(0, .var [vh 0, vh 0])]) 1 (some (.var [vh 0, vh 0, vh 0, vh 0])))) (n' := 2) rfl ?_
   refine step (v := V.undef) (σ' := (al (al (ac [(0, .var [vh 0, vh 0])]) 1 (some (.var [vh 0, vh 0, vh 0, vh 0]))) 1 (some (.var [vh x7.a0.Sw, vh x7.a0.Pt, vh x7.a1.Sw, vh x7.a1.Pt])))) (n' := 2) rfl ?_
   exact nR [0, 1]
  refine am ⟨tab [(3, cF a1), (4, .ptr 0 0 0), (7, .ptr 1 0 0), (9, ba a0.Links), (10, vi (a0.Links.length : Int)), (11, vi i1), (15, dl a1)], ac [(0, .var [vh 0, vh 0]), (1, .var [vh x7.a0.Sw, vh x7.a0.Pt, vh x7.a1.Sw, vh x7.a1.Pt])], 2⟩ ?_ ?_
  ·
   refine q1 _ ?_
   exact nR [0, 1]
  refine bG ?_
  refine am ⟨tab [(3, cF a1), (4, .ptr 0 0 0), (7, .ptr 1 0 0), (9, ba a0.Links), (10, vi (a0.Links.length : Int)), (11, vi i1), (15, dl a1), (16, vb (a1 == x7.a0))], ac [(0, .var [vh 0, vh 0]), (1, .var [vh x7.a0.Sw, vh x7.a0.Pt, vh x7.a1.Sw, vh x7.a1.Pt])], 2⟩ ?_ ?_
  ·
   refine q1 _ ?_
   refine step (v := dl x7.a0) (cb (ds := [.int .u16 x7.a0.Sw, .int .u16 x7.a0.Pt]) rfl rfl (show 2 ≤ 4 by decide) rfl) ?_
   refine step (v := vb (a1 == x7.a0)) (f4 (neg := false) rfl rfl (l4 a1 x7.a0)) ?_
   refine q1 _ ?_
   exact nR [0, 1]
  by_cases hc8 : (a1 == x7.a0) = true
  ·
   replace h := aO hc8 h
   refine aY (t := (a1 == x7.a0)) rfl hc8 ?_
   refine am ⟨tab [(4, .ptr 0 0 0), (5, vb true)], ac [(0, .var [vh x7.a1.Sw, vh x7.a1.Pt])], 1⟩ ?_ ?_
   ·
    refine q1 _ ?_
    refine step (v := dl x7.a1) (cb (ds := [.int .u16 x7.a1.Sw, .int .u16 x7.a1.Pt]) rfl rfl (show 4 ≤ 4 by decide) rfl) ?_
    refine step (v := V.undef) (σ' := (al (ac [(0, .var [vh 0, vh 0]), (1, .var [vh x7.a0.Sw, vh x7.a0.Pt, vh x7.a1.Sw, vh x7.a1.Pt])]) 0 (some (.var [vh x7.a1.Sw, vh x7.a1.Pt])))) (n' := 2) rfl ?_
    refine q1 _ ?_
    exact nR [0]
   obtain ⟨r9, kr9, hr⟩ := cq (o := some (x7.a1, true)) (g := Br.ret) h
   subst hr
   have h := kr9
   have hh := aq h
   subst hh
   refine aV ?_
   refine And.intro (fun hn => nomatch hn) ?_
   intro hq
   have hq := hq.symm
   subst hq
   show FQ _ _ _ _
   exact eE (.inr rfl) (ff (ds := [.int .u16 x7.a1.Sw, .int .u16 x7.a1.Pt]) rfl rfl (show 2 ≤ 2 by decide) rfl (bg (v := vb true) rfl rfl)) (RV.d (RV.d trivial))
  ·
   replace h := aP hc8 h
   refine aW (t := (a1 == x7.a0)) rfl hc8 ?_
   refine am ⟨tab [(3, cF a1), (4, .ptr 0 0 0), (7, .ptr 1 0 0), (9, ba a0.Links), (10, vi (a0.Links.length : Int)), (11, vi i1), (22, vb (a1 == x7.a1))], ac [(0, .var [vh 0, vh 0]), (1, .var [vh x7.a0.Sw, vh x7.a0.Pt, vh x7.a1.Sw, vh x7.a1.Pt])], 2⟩ ?_ ?_
   ·
    refine q1 _ ?_
    refine step (v := dl x7.a1) (cb (ds := [.int .u16 x7.a1.Sw, .int .u16 x7.a1.Pt]) rfl rfl (show 4 ≤ 4 by decide) rfl) ?_
    refine step (v := vb (a1 == x7.a1)) (f4 (neg := false) rfl rfl (l4 a1 x7.a1)) ?_
    refine q1 _ ?_
    exact nR [0, 1]
   by_cases hc9 : (a1 == x7.a1) = true
   ·
    replace h := aO hc9 h
    refine aY (t := (a1 == x7.a1)) rfl hc9 ?_
    refine am ⟨tab [(4, .ptr 0 0 0), (5, vb true)], ac [(0, .var [vh x7.a0.Sw, vh x7.a0.Pt])], 1⟩ ?_ ?_
    ·
     refine q1 _ ?_
     refine step (v := dl x7.a0) (cb (ds := [.int .u16 x7.a0.Sw, .int .u16 x7.a0.Pt]) rfl rfl (show 2 ≤ 4 by decide) rfl) ?_
     refine step (v := V.undef) (σ' := (al (ac [(0, .var [vh 0, vh 0]), (1, .var [vh x7.a0.Sw, vh x7.a0.Pt, vh x7.a1.Sw, vh x7.a1.Pt])]) 0 (some (.var [vh x7.a0.Sw, vh x7.a0.Pt])))) (n' := 2) rfl ?_
     refine q1 _ ?_
     exact nR [0]
    obtain ⟨r10, kr10, hr⟩ := cq (o := some (x7.a0, true)) (g := Br.ret) h
    subst hr
    have h := kr10
    have hh := aq h
    subst hh
    refine aV ?_
    refine And.intro (fun hn => nomatch hn) ?_
    intro hq
    have hq := hq.symm
    subst hq
    show FQ _ _ _ _
    exact eE (.inr rfl) (ff (ds := [.int .u16 x7.a0.Sw, .int .u16 x7.a0.Pt]) rfl rfl (show 2 ≤ 2 by decide) rfl (bg (v := vb true) rfl rfl)) (RV.d (RV.d trivial))
   ·
    replace h := aP hc9 h
    refine aW (t := (a1 == x7.a1)) rfl hc9 ?_
    refine bh ?_
    have hh := aq h
    subst hh
    refine bU ⟨tab [(3, cF a1), (4, .ptr 0 0 0), (9, ba a0.Links), (10, vi (a0.Links.length : Int)), (11, vi (i1 + 1))], ac [(0, .var [vh 0, vh 0])], 1⟩ ?_ ?_
    ·
     refine step (v := vi (i1 + 1)) (cL (cM hinv4 hgo3 hB2) rfl rfl) ?_
     refine q1 _ ?_
     exact nR [0]
    exact And.intro rfl rfl
 ·
  rintro i1 ⟨⟩ hinv4 hgo3
  show aI _ _ _ _ _ ⟨tab [(3, cF a1), (4, .ptr 0 0 0), (9, ba a0.Links), (10, vi (a0.Links.length : Int)), (11, vi i1)], ac [(0, .var [vh 0, vh 0])], 1⟩
  have hc5 : ¬ (decide (i1 < (a0.Links.length : Int)) = true) := fun hq => hgo3 (of_decide_eq_true hq)
  refine am ⟨tab [(3, cF a1), (4, .ptr 0 0 0), (9, ba a0.Links), (10, vi (a0.Links.length : Int)), (11, vi i1), (12, vb (decide (i1 < (a0.Links.length : Int))))], ac [(0, .var [vh 0, vh 0])], 1⟩ ?_ ?_
  ·
   refine q1 _ ?_
   exact nR [0]
  refine aG ?_
  refine aW (t := decide (i1 < (a0.Links.length : Int))) rfl hc5 ?_
  refine bb (s0 := ⟨tab [(4, .ptr 0 0 0)], ac [(0, .var [vh 0, vh 0])], 1⟩) (nr [0]) ?_
  refine cI ?_
  exact And.intro rfl rfl
 ·
  intro r' hq
  subst hq
  exact aq h
 rintro ⟨⟩ rfl
 refine am ⟨tab [(4, .ptr 0 0 0), (5, vb false)], ac [(0, .var [vh 0, vh 0])], 1⟩ ?_ ?_
 ·
  refine step (v := dl (api_Port.mk 0 0)) (de (ds := [.int .u16 0, .int .u16 0]) rfl) ?_
  refine step (v := V.undef) (σ' := (al (ac [(0, .var [vh 0, vh 0])]) 0 (some (.var [vh 0, vh 0])))) (n' := 1) rfl ?_
  refine q1 _ ?_
  exact nR [0]
 have hh := aq h
 subst hh
 refine aV ?_
 show FQ _ _ _ _
 exact eE (.inr rfl) (ff (ds := [.int .u16 0, .int .u16 0]) rfl rfl (show 2 ≤ 2 by decide) rfl (bg (v := vb false) rfl rfl)) (RV.d (RV.d trivial))
theorem Ac {a0 : (A8 Int)} {a1 : api_Port} {r : (A8 Int)} (h : nG a0 a1 = some r) : PCall Try.prog 73 [eA8 (D.int .u16) a0, eapi_Port a1] (eA8 (D.int .u16) r) := by
 refine PCall.introN yz (show 2 ≤ 12 by decide) ?_
 refine bb (s0 := ⟨tab [(0, .d (eA8 (D.int .u16) a0)), (1, dl a1)], ac [], 0⟩) (nr []) ?_
 refine am ⟨tab [(2, .ptr 0 0 0), (3, cF a1), (4, .ptr 1 0 0)], ac [(0, .var [vh a0.a0, vh a0.a1, vh a0.a2, vh a0.a3, vh a0.a4, vh a0.a5, vh a0.a6, vh a0.a7]), (1, ce)], 2⟩ ?_ ?_
 ·
  refine step (v := .ptr 0 0 0) (σ' := (al (ac []) 0 (some (.var [vh a0.a0, vh a0.a1, vh a0.a2, vh a0.a3, vh a0.a4, vh a0.a5, vh a0.a6, vh a0.a7])))) (n' := 1) rfl ?_
  refine q1 _ ?_
  refine step (v := .ptr 1 0 0) (σ' := (al (al (ac []) 0 (some (.var [vh a0.a0, vh a0.a1, vh a0.a2, vh a0.a3, vh a0.a4, vh a0.a5, vh a0.a6, vh a0.a7]))) 1 (some (ce)))) (n' := 2) rfl ?_
  exact nR [0, 1]
 refine am ⟨tab [(2, .ptr 0 0 0), (4, .ptr 1 0 0)], ac [(0, .var [vh a1.Sw, vh a1.Pt, vh a0.a2, vh a0.a3, vh a0.a4, vh a0.a5, vh a0.a6, vh a0.a7]), (1, ce)], 2⟩ ?_ ?_
 ·
  iterate 5 refine q1 _ ?_
  refine step (v := V.undef) (σ' := (al (ac [(0, .var [vh a0.a0, vh a0.a1, vh a0.a2, vh a0.a3, vh a0.a4, vh a0.a5, vh a0.a6, vh a0.a7]), (1, ce)]) 0 (some (.var [vh a1.Sw, vh a0.a1, vh a0.a2, vh a0.a3, vh a0.a4, vh a0.a5, vh a0.a6, vh a0.a7])))) (n' := 2) rfl ?_
  refine q1 _ ?_
  refine step (v := V.undef) (σ' := (al (al (ac [(0, .var [vh a0.a0, vh a0.a1, vh a0.a2, vh a0.a3, vh a0.a4, vh a0.a5, vh a0.a6, vh a0.a7]), (1, ce)]) 0 (some (.var [vh a1.Sw, vh a0.a1, vh a0.a2, vh a0.a3, vh a0.a4, vh a0.a5, vh a0.a6, vh a0.a7]))) 0 (some (.var [vh a1.Sw, vh a1.Pt, vh a0.a2, vh a0.a3, vh a0.a4, vh a0.a5, vh a0.a6, vh a0.a7])))) (n' := 2) rfl ?_
  exact nR [0, 1]
 refine am ⟨tab [(4, .ptr 0 0 0)], ac [(0, .var [vh a1.Sw, vh a1.Pt, vh a0.a2, vh a0.a3, vh a0.a4, vh a0.a5, vh a0.a6, vh a0.a7])], 1⟩ ?_ ?_
 ·
  refine step (v := .d (eA8 (D.int .u16) (A8.mk a1.Sw a1.Pt a0.a2 a0.a3 a0.a4 a0.a5 a0.a6 a0.a7))) (cb (ds := [.int .u16 a1.Sw, .int .u16 a1.Pt, .int .u16 a0.a2, .int .u16 a0.a3, .int .u16 a0.a4, .int .u16 a0.a5, .int .u16 a0.a6, .int .u16 a0.a7]) rfl rfl (show 8 ≤ 8 by decide) rfl) ?_
  refine step (v := V.undef) (σ' := (al (ac [(0, .var [vh a1.Sw, vh a1.Pt, vh a0.a2, vh a0.a3, vh a0.a4, vh a0.a5, vh a0.a6, vh a0.a7]), (1, ce)]) 1 (some (.var [vh a1.Sw, vh a1.Pt, vh a0.a2, vh a0.a3, vh a0.a4, vh a0.a5, vh a0.a6, vh a0.a7])))) (n' := 2) rfl ?_
  exact nR [1]
 have hh := aq h
 subst hh
 refine aV ?_
 show FQ _ _ _ _
 exact br (.inr rfl) (ff (ds := [.int .u16 a1.Sw, .int .u16 a1.Pt, .int .u16 a0.a2, .int .u16 a0.a3, .int .u16 a0.a4, .int .u16 a0.a5, .int .u16 a0.a6, .int .u16 a0.a7]) rfl rfl (show 8 ≤ 8 by decide) rfl rfl) (RV.d trivial)
theorem Ad {a0 : (List api_Port)} {a1 : api_Port} {r : Int} (h : nH a0 a1 = some r) : PCall Try.prog 108 [eL (some 2) eapi_Port a0, eapi_Port a1] (.int .i64 r) := by
 refine PCall.introN yC (show 2 ≤ 19 by decide) ?_
 refine bb (s0 := ⟨tab [(0, aL a0), (1, dl a1)], ac [], 0⟩) (nr []) ?_
 refine am ⟨tab [(0, aL a0), (3, cF a1)], ac [], 0⟩ ?_ ?_
 ·
  iterate 2 refine q1 _ ?_
  exact nR []
 refine aG ?_
 refine am ⟨tab [(0, aL a0), (3, cF a1), (7, vi (a0.length : Int)), (8, vi 0)], ac [], 0⟩ ?_ ?_
 ·
  refine q1 _ ?_
  refine step (v := vi (a0.length : Int)) (bF (xs := a0) (e := eapi_Port) rfl) ?_
  refine q1 _ ?_
  exact nR []
 obtain ⟨q9, hl, h⟩ := ay h
 refine bG ?_
 refine dp (cQ (a0.length : Int)) (fun (i1 : Int) (qq : Unit) => ⟨tab [(0, aL a0), (3, cF a1), (7, vi (a0.length : Int)), (8, vi i1)], ac [], 0⟩) 0 (fun (qq : Unit) => ⟨tab [], ac [], 0⟩) bK cR (r := r) hl (by unfold bK; omega) ?_ ?_ ?_ ?_
 ·
  rintro i1 ⟨⟩ xr6 hinv4 hgo3 h
  show aI _ _ _ _ _ ⟨tab [(0, aL a0), (3, cF a1), (7, vi (a0.length : Int)), (8, vi i1)], ac [], 0⟩
  have hc5 : decide (i1 < (a0.length : Int)) = true := decide_eq_true hgo3
  refine am ⟨tab [(0, aL a0), (3, cF a1), (7, vi (a0.length : Int)), (8, vi i1), (9, vb (decide (i1 < (a0.length : Int))))], ac [], 0⟩ ?_ ?_
  ·
   refine q1 _ ?_
   exact nR []
  refine c8 7 rfl fun hB2 => ?_
  refine aG ?_
  refine aY (t := decide (i1 < (a0.length : Int))) rfl hc5 ?_
  refine bh ?_
  refine aG ?_
  refine bG ?_
  refine am ⟨tab [(0, aL a0), (3, cF a1), (5, vi i1), (7, vi (a0.length : Int)), (8, vi i1)], ac [], 0⟩ ?_ ?_
  ·
   iterate 2 refine q1 _ ?_
   exact nR []
  obtain ⟨x7, hx7, h⟩ := ay h
  refine am ⟨tab [(0, aL a0), (3, cF a1), (5, vi i1), (7, vi (a0.length : Int)), (8, vi i1), (16, vb (a1 == x7))], ac [], 0⟩ ?_ ?_
  ·
   iterate 3 refine q1 _ ?_
   refine step (v := cF x7) (cl (xs := a0) (e := eapi_Port) hx7 rfl rfl) ?_
   refine q1 _ ?_
   refine step (v := vb (a1 == x7)) (f4 (neg := false) rfl rfl (l4 a1 x7)) ?_
   exact nR []
  by_cases hc8 : (a1 == x7) = true
  ·
   replace h := aO hc8 h
   refine aY (t := (a1 == x7)) rfl hc8 ?_
   refine am ⟨tab [(4, vi i1)], ac [], 0⟩ ?_ ?_
   ·
    iterate 2 refine q1 _ ?_
    exact nR []
   obtain ⟨r9, kr9, hr⟩ := cq (o := some i1) (g := Br.ret) h
   subst hr
   have h := kr9
   have hh := aq h
   subst hh
   refine aV ?_
   refine And.intro (fun hn => nomatch hn) ?_
   intro hq
   have hq := hq.symm
   subst hq
   show FQ _ _ _ _
   exact br (.inr rfl) (bg (v := vi i1) rfl rfl) (RV.d trivial)
  ·
   replace h := aP hc8 h
   refine aW (t := (a1 == x7)) rfl hc8 ?_
   refine bh ?_
   have hh := aq h
   subst hh
   refine bU ⟨tab [(0, aL a0), (3, cF a1), (7, vi (a0.length : Int)), (8, vi (i1 + 1))], ac [], 0⟩ ?_ ?_
   ·
    refine step (v := vi (i1 + 1)) (cL (cM hinv4 hgo3 hB2) rfl rfl) ?_
    refine q1 _ ?_
    exact nR []
   exact And.intro rfl rfl
 ·
  rintro i1 ⟨⟩ hinv4 hgo3
  show aI _ _ _ _ _ ⟨tab [(0, aL a0), (3, cF a1), (7, vi (a0.length : Int)), (8, vi i1)], ac [], 0⟩
  have hc5 : ¬ (decide (i1 < (a0.length : Int)) = true) := fun hq => hgo3 (of_decide_eq_true hq)
  refine am ⟨tab [(0, aL a0), (3, cF a1), (7, vi (a0.length : Int)), (8, vi i1), (9, vb (decide (i1 < (a0.length : Int))))], ac [], 0⟩ ?_ ?_
  ·
   refine q1 _ ?_
   exact nR []
  refine aG ?_
  refine aW (t := decide (i1 < (a0.length : Int))) rfl hc5 ?_
  refine bb (s0 := ⟨tab [], ac [], 0⟩) (nr []) ?_
  refine cI ?_
  exact And.intro rfl rfl
 ·
  intro r' hq
  subst hq
  exact aq h
 rintro ⟨⟩ rfl
 refine am ⟨tab [(4, vi (-1))], ac [], 0⟩ ?_ ?_
 ·
  refine q1 _ ?_
  exact nR []
 have hh := aq h
 subst hh
 refine aV ?_
 show FQ _ _ _ _
 exact br (.inr rfl) (bg (v := vi (-1)) rfl rfl) (RV.d trivial)
theorem Ae {a0 : (List api_Port)} {a1 : api_Port} {r : Bool} (h : nI a0 a1 = some r) : PCall Try.prog 96 [eL (some 2) eapi_Port a0, eapi_Port a1] (.bool r) := by
 refine PCall.introN yE (show 2 ≤ 9 by decide) ?_
 refine bb (s0 := ⟨tab [(0, aL a0), (1, dl a1)], ac [], 0⟩) (nr []) ?_
 refine am ⟨tab [(0, aL a0), (3, cF a1)], ac [], 0⟩ ?_ ?_
 ·
  iterate 2 refine q1 _ ?_
  exact nR []
 obtain ⟨r1, hr1, h⟩ := ay h
 refine am ⟨tab [(4, vb (decide (r1 ≥ 0)))], ac [], 0⟩ ?_ ?_
 ·
  iterate 2 refine q1 _ ?_
  refine bC (r := .int .i64 r1) (aF (aF aQ.nil')) (Ad hr1) ?_
  iterate 2 refine q1 _ ?_
  exact nR []
 have hh := aq h
 subst hh
 refine aV ?_
 show FQ _ _ _ _
 exact br (.inr rfl) (bg (v := vb (decide (r1 ≥ 0))) rfl rfl) (RV.d trivial)
theorem Af {a0 : api_Topo} {a1 : api_Port} {r : Bool} (h : lD a0 a1 = some r) : PCall Try.prog 74 [eapi_Topo a0, eapi_Port a1] (.bool r) := by
 refine PCall.introN yG (show 2 ≤ 9 by decide) ?_
 refine bb (s0 := ⟨tab [(0, eG a0), (1, dl a1)], ac [], 0⟩) (nr []) ?_
 refine am ⟨tab [(2, bx a0), (3, cF a1)], ac [], 0⟩ ?_ ?_
 ·
  iterate 3 refine q1 _ ?_
  exact nR []
 obtain ⟨r1, hr1, h⟩ := ay h
 refine am ⟨tab [(4, vb r1)], ac [], 0⟩ ?_ ?_
 ·
  iterate 3 refine q1 _ ?_
  refine bC (r := .bool r1) (aF (aF aQ.nil')) (Ae hr1) ?_
  refine q1 _ ?_
  exact nR []
 have hh := aq h
 subst hh
 refine aV ?_
 show FQ _ _ _ _
 exact br (.inr rfl) (bg (v := vb r1) rfl rfl) (RV.d trivial)
theorem oJ {a0 : api_Topo} {a1 : (A8 Int)} {r : ((A8 Int) × Int)} (h : jc a0 a1 = some r) : PCall Try.prog 45 [eapi_Topo a0, eA8 (D.int .u16) a1] (.tup [eA8 (D.int .u16) r.1, .int .i64 r.2]) := by
 refine PCall.introN yH (show 2 ≤ 26 by decide) ?_
 refine bb (s0 := ⟨tab [(0, eG a0), (1, .d (eA8 (D.int .u16) a1))], ac [], 0⟩) (nr []) ?_
 refine am ⟨tab [(2, bx a0), (3, .d (.cptr (some 8) (eA8 (D.int .u16) a1) 0)), (4, .ptr 0 0 0)], ac [(0, ce)], 1⟩ ?_ ?_
 ·
  iterate 2 refine q1 _ ?_
  refine step (v := .ptr 0 0 0) (σ' := (al (ac []) 0 (some (ce)))) (n' := 1) rfl ?_
  refine q1 _ ?_
  exact nR [0]
 obtain ⟨r1, hr1, h⟩ := ay h
 refine am ⟨tab [(2, bx a0), (3, .d (.cptr (some 8) (eA8 (D.int .u16) a1) 0)), (4, .ptr 0 0 0), (6, .ptr 1 0 0)], ac [(0, ce), (1, .var [vh r1.Sw, vh r1.Pt])], 2⟩ ?_ ?_
 ·
  refine q1 _ ?_
  refine bC (r := eapi_Port r1) (aF aQ.nil') (Aa hr1) ?_
  refine step (v := .ptr 1 0 0) (σ' := (al (ac [(0, ce)]) 1 (some (.var [vh 0, vh 0])))) (n' := 2) rfl ?_
  refine step (v := V.undef) (σ' := (al (al (ac [(0, ce)]) 1 (some (.var [vh 0, vh 0]))) 1 (some (.var [vh r1.Sw, vh r1.Pt])))) (n' := 2) rfl ?_
  exact nR [0, 1]
 refine aG ?_
 obtain ⟨r2, hr2, h⟩ := ay h
 refine am ⟨tab [(2, bx a0), (3, .d (.cptr (some 8) (eA8 (D.int .u16) a1) 0)), (4, .ptr 0 0 0), (6, .ptr 1 0 0), (7, .ptr 2 0 0), (8, vb r2.2)], ac [(0, ce), (1, .var [vh r1.Sw, vh r1.Pt]), (2, .var [vh r2.1.Sw, vh r2.1.Pt])], 3⟩ ?_ ?_
 ·
  refine q1 _ ?_
  refine step (v := dl r1) (cb (ds := [.int .u16 r1.Sw, .int .u16 r1.Pt]) rfl rfl (show 2 ≤ 2 by decide) rfl) ?_
  refine bC (r := .tup [eapi_Port r2.1, .bool r2.2]) (aF (aF aQ.nil')) (Ab hr2) ?_
  iterate 3 refine q1 _ ?_
  refine step (v := .ptr 2 0 0) (σ' := (al (ac [(0, ce), (1, .var [vh r1.Sw, vh r1.Pt])]) 2 (some (.var [vh 0, vh 0])))) (n' := 3) rfl ?_
  refine step (v := V.undef) (σ' := (al (al (ac [(0, ce), (1, .var [vh r1.Sw, vh r1.Pt])]) 2 (some (.var [vh 0, vh 0]))) 2 (some (.var [vh r2.1.Sw, vh r2.1.Pt])))) (n' := 3) rfl ?_
  refine q1 _ ?_
  exact nR [0, 1, 2]
 refine am ⟨tab [(2, bx a0), (3, .d (.cptr (some 8) (eA8 (D.int .u16) a1) 0)), (4, .ptr 0 0 0), (6, .ptr 1 0 0), (7, .ptr 2 0 0), (17, vb r2.2)], ac [(0, ce), (1, .var [vh r1.Sw, vh r1.Pt]), (2, .var [vh r2.1.Sw, vh r2.1.Pt])], 3⟩ ?_ ?_
 ·
  refine q1 _ ?_
  exact nR [0, 1, 2]
 by_cases hc3 : r2.2 = true
 ·
  replace h := aO hc3 h
  refine aY (t := r2.2) rfl hc3 ?_
  obtain ⟨r4, hr4, h⟩ := ay h
  refine am ⟨tab [(4, .ptr 0 0 0), (5, vi 0)], ac [(0, .var [vh r4.a0, vh r4.a1, vh r4.a2, vh r4.a3, vh r4.a4, vh r4.a5, vh r4.a6, vh r4.a7])], 1⟩ ?_ ?_
  ·
   refine q1 _ ?_
   refine step (v := dl r2.1) (cb (ds := [.int .u16 r2.1.Sw, .int .u16 r2.1.Pt]) rfl rfl (show 2 ≤ 2 by decide) rfl) ?_
   refine bC (r := eA8 (D.int .u16) r4) (aF (aF aQ.nil')) (Ac hr4) ?_
   refine step (v := V.undef) (σ' := (al (ac [(0, ce), (1, .var [vh r1.Sw, vh r1.Pt]), (2, .var [vh r2.1.Sw, vh r2.1.Pt])]) 0 (some (.var [vh r4.a0, vh r4.a1, vh r4.a2, vh r4.a3, vh r4.a4, vh r4.a5, vh r4.a6, vh r4.a7])))) (n' := 3) rfl ?_
   refine q1 _ ?_
   exact nR [0]
  have hh := aq h
  subst hh
  refine aV ?_
  show FQ _ _ _ _
  exact eE (.inr rfl) (ff (ds := [.int .u16 r4.a0, .int .u16 r4.a1, .int .u16 r4.a2, .int .u16 r4.a3, .int .u16 r4.a4, .int .u16 r4.a5, .int .u16 r4.a6, .int .u16 r4.a7]) rfl rfl (show 8 ≤ 8 by decide) rfl (bg (v := vi 0) rfl rfl)) (RV.d (RV.d trivial))
 ·
  replace h := aP hc3 h
  refine aW (t := r2.2) rfl hc3 ?_
  refine bh ?_
  refine aG ?_
  obtain ⟨r5, hr5, h⟩ := ay h
  refine am ⟨tab [(3, .d (.cptr (some 8) (eA8 (D.int .u16) a1) 0)), (4, .ptr 0 0 0), (23, vb r5)], ac [(0, ce)], 1⟩ ?_ ?_
  ·
   refine q1 _ ?_
   refine step (v := dl r1) (cb (ds := [.int .u16 r1.Sw, .int .u16 r1.Pt]) rfl rfl (show 2 ≤ 2 by decide) rfl) ?_
   refine bC (r := .bool r5) (aF (aF aQ.nil')) (Af hr5) ?_
   exact nR [0]
  by_cases hc6 : r5 = true
  ·
   replace h := aO hc6 h
   refine aY (t := r5) rfl hc6 ?_
   refine am ⟨tab [(4, .ptr 0 0 0), (5, vi 1)], ac [(0, .var [vh a1.a0, vh a1.a1, vh a1.a2, vh a1.a3, vh a1.a4, vh a1.a5, vh a1.a6, vh a1.a7])], 1⟩ ?_ ?_
   ·
    refine q1 _ ?_
    refine step (v := V.undef) (σ' := (al (ac [(0, ce)]) 0 (some (.var [vh a1.a0, vh a1.a1, vh a1.a2, vh a1.a3, vh a1.a4, vh a1.a5, vh a1.a6, vh a1.a7])))) (n' := 1) rfl ?_
    refine q1 _ ?_
    exact nR [0]
   have hh := aq h
   subst hh
   refine aV ?_
   show FQ _ _ _ _
   exact eE (.inr rfl) (ff (ds := [.int .u16 a1.a0, .int .u16 a1.a1, .int .u16 a1.a2, .int .u16 a1.a3, .int .u16 a1.a4, .int .u16 a1.a5, .int .u16 a1.a6, .int .u16 a1.a7]) rfl rfl (show 8 ≤ 8 by decide) rfl (bg (v := vi 1) rfl rfl)) (RV.d (RV.d trivial))
  ·
   replace h := aP hc6 h
   refine aW (t := r5) rfl hc6 ?_
   refine bh ?_
   refine am ⟨tab [(4, .ptr 0 0 0), (5, vi 2)], ac [(0, .var [vh a1.a0, vh a1.a1, vh a1.a2, vh a1.a3, vh a1.a4, vh a1.a5, vh a1.a6, vh a1.a7])], 1⟩ ?_ ?_
   ·
    refine q1 _ ?_
    refine step (v := V.undef) (σ' := (al (ac [(0, ce)]) 0 (some (.var [vh a1.a0, vh a1.a1, vh a1.a2, vh a1.a3, vh a1.a4, vh a1.a5, vh a1.a6, vh a1.a7])))) (n' := 1) rfl ?_
    refine q1 _ ?_
    exact nR [0]
   have hh := aq h
   subst hh
   refine aV ?_
   show FQ _ _ _ _
   exact eE (.inr rfl) (ff (ds := [.int .u16 a1.a0, .int .u16 a1.a1, .int .u16 a1.a2, .int .u16 a1.a3, .int .u16 a1.a4, .int .u16 a1.a5, .int .u16 a1.a6, .int .u16 a1.a7]) rfl rfl (show 8 ≤ 8 by decide) rfl (bg (v := vi 2) rfl rfl)) (RV.d (RV.d trivial))
theorem Ag {self : cz → (List (A8 Int)) → (A8 Int) → Option (Int × cz)} (hself : ∀ (a0 : cz) (a1 : (List (A8 Int))) (a2 : (A8 Int)) (r : (Int × cz)), self a0 a1 a2 = some r → bY Try.prog 68 [.ptr 0 0 0, .d (eL (some 8) (eA8 (D.int .u16)) a1), .d (eA8 (D.int .u16) a2)] (ac [(0, .var [ar a0.t.Switches, ba a0.t.Links, aL a0.t.Hosts, vi a0.p.Op, vi a0.p.F, vh a0.p.N, ax a0.p.Kids, ar a0.state, .loc 1 0 a0.found.length]), (1, .lst false none (List.map (eL (some 8) (eA8 (D.int .u16))) a0.found))]) 2 (vi r.1) (ac [(0, .var [ar r.2.t.Switches, ba r.2.t.Links, aL r.2.t.Hosts, vi r.2.p.Op, vi r.2.p.F, vh r.2.p.N, ax r.2.p.Kids, ar r.2.state, .loc 2 0 r.2.found.length]), (2, .lst false none (List.map (eL (some 8) (eA8 (D.int .u16))) r.2.found))]) 3) {a0 : cz} {a1 : (List (A8 Int))} {a2 : (A8 Int)} {r : (Int × cz)} (h : lE self a0 a1 a2 = some r) : bY Try.prog 68 [.ptr 0 0 0, .d (eL (some 8) (eA8 (D.int .u16)) a1), .d (eA8 (D.int .u16) a2)] (ac [(0, .var [ar a0.t.Switches, ba a0.t.Links, aL a0.t.Hosts, vi a0.p.Op, vi a0.p.F, vh a0.p.N, ax a0.p.Kids, ar a0.state, .loc 1 0 a0.found.length]), (1, .lst false none (List.map (eL (some 8) (eA8 (D.int .u16))) a0.found))]) 2 (vi r.1) (ac [(0, .var [ar r.2.t.Switches, ba r.2.t.Links, aL r.2.t.Hosts, vi r.2.p.Op, vi r.2.p.F, vh r.2.p.N, ax r.2.p.Kids, ar r.2.state, .loc 2 0 r.2.found.length]), (2, .lst false none (List.map (eL (some 8) (eA8 (D.int .u16))) r.2.found))]) 3 := by
 refine bY.introN (bl := [(0, .var [ar a0.t.Switches, ba a0.t.Links, aL a0.t.Hosts, vi a0.p.Op, vi a0.p.F, vh a0.p.N, ax a0.p.Kids, ar a0.state, .loc 1 0 a0.found.length]), (1, .lst false none (List.map (eL (some 8) (eA8 (D.int .u16))) a0.found))]) (bl' := [(0, .var [ar r.2.t.Switches, ba r.2.t.Links, aL r.2.t.Hosts, vi r.2.p.Op, vi r.2.p.F, vh r.2.p.N, ax r.2.p.Kids, ar r.2.state, .loc 2 0 r.2.found.length]), (2, .lst false none (List.map (eL (some 8) (eA8 (D.int .u16))) r.2.found))]) yK (show 3 ≤ 81 by decide) rfl ?_
 refine bb (s0 := ⟨tab [(0, .ptr 0 0 0), (1, .d (eL (some 8) (eA8 (D.int .u16)) a1)), (2, .d (eA8 (D.int .u16) a2))], ac [(0, .var [ar a0.t.Switches, ba a0.t.Links, aL a0.t.Hosts, vi a0.p.Op, vi a0.p.F, vh a0.p.N, ax a0.p.Kids, ar a0.state, .loc 1 0 a0.found.length]), (1, .lst false none (List.map (eL (some 8) (eA8 (D.int .u16))) a0.found))], 2⟩) (nr [0, 1]) ?_
 refine am ⟨tab [(0, .ptr 0 0 0), (1, .d (eL (some 8) (eA8 (D.int .u16)) a1)), (5, .d (.cptr (some 8) (eA8 (D.int .u16) a2) 0))], ac [(0, .var [ar a0.t.Switches, ba a0.t.Links, aL a0.t.Hosts, vi a0.p.Op, vi a0.p.F, vh a0.p.N, ax a0.p.Kids, ar a0.state, .loc 1 0 a0.found.length]), (1, .lst false none (List.map (eL (some 8) (eA8 (D.int .u16))) a0.found))], 2⟩ ?_ ?_
 ·
  iterate 2 refine q1 _ ?_
  exact nR [0, 1]
 obtain ⟨r1, hr1, h⟩ := ay h
 obtain ⟨l2, hl2, h⟩ := ay h
 refine am ⟨tab [(0, .ptr 0 0 0), (1, .d (eL (some 8) (eA8 (D.int .u16)) l2)), (5, .d (.cptr (some 8) (eA8 (D.int .u16) a2) 0))], ac [(0, .var [ar a0.t.Switches, ba a0.t.Links, aL a0.t.Hosts, vi a0.p.Op, vi a0.p.F, vh a0.p.N, ax a0.p.Kids, ar a0.state, .loc 1 0 a0.found.length]), (1, .lst false none (List.map (eL (some 8) (eA8 (D.int .u16))) a0.found))], 2⟩ ?_ ?_
 ·
  refine q1 _ ?_
  refine gF (v := .loc 2 0 r1.length) (σ' := (al (ac [(0, .var [ar a0.t.Switches, ba a0.t.Links, aL a0.t.Hosts, vi a0.p.Op, vi a0.p.F, vh a0.p.N, ax a0.p.Kids, ar a0.state, .loc 1 0 a0.found.length]), (1, .lst false none (List.map (eL (some 8) (eA8 (D.int .u16))) a0.found))]) 2 (some (.lst false (some 8) (List.map (eA8 (D.int .u16)) r1))))) (n' := 3) (gG [] (bY.frz (ma hr1)) (show 0 ≤ 1 by decide) (by decide) (show ∀ i ∈ [], i < 2 by decide) (d8 (show 0 < 1 by decide) fz) (bo.c (.d _) bo.nil0) SN.nil0) (show 2 ≤ 3 by decide) ?_
  iterate 2 refine q1 _ ?_
  refine step (v := .loc 3 0 l2.length) (σ' := (al (al (al (ac [(0, .var [ar a0.t.Switches, ba a0.t.Links, aL a0.t.Hosts, vi a0.p.Op, vi a0.p.F, vh a0.p.N, ax a0.p.Kids, ar a0.state, .loc 1 0 a0.found.length]), (1, .lst false none (List.map (eL (some 8) (eA8 (D.int .u16))) a0.found))]) 2 (some (.lst false (some 8) (List.map (eA8 (D.int .u16)) r1)))) 2 none) 3 (some (.lst false (some 8) (List.map (eA8 (D.int .u16)) l2))))) (n' := 4) (eP (xs := r1) (ys := ([a2] : List (A8 Int))) (e := (eA8 (D.int .u16))) hl2 rfl rfl rfl (fc (xs := ([a2] : List (A8 Int))) (e := (eA8 (D.int .u16))) rfl)) ?_
  refine q1 _ ?_
  exact aZ.nil' (bO.trans (s2 := ⟨tab [(0, .ptr 0 0 0), (1, .d (eL (some 8) (eA8 (D.int .u16)) l2)), (5, .d (.cptr (some 8) (eA8 (D.int .u16) a2) 0))], ac [(0, .var [ar a0.t.Switches, ba a0.t.Links, aL a0.t.Hosts, vi a0.p.Op, vi a0.p.F, vh a0.p.N, ax a0.p.Kids, ar a0.state, .loc 1 0 a0.found.length]), (1, .lst false none (List.map (eL (some 8) (eA8 (D.int .u16))) a0.found))], 2⟩) (vf [1, 17] (id := 3) (m := false) (k := (some 8)) (xs := l2) (e := (eA8 (D.int .u16))) rfl (fun t ht => by simp at ht; rcases ht with rfl | rfl <;> exact ⟨_, rfl, rfl⟩)) (nr [0, 1]))
 obtain ⟨r3, hr3, h⟩ := ay h
 refine am ⟨tab [(0, .ptr 0 0 0), (1, .d (eL (some 8) (eA8 (D.int .u16)) l2)), (7, .d (eL (some 8) (eA8 (D.int .u16)) r3.1)), (8, vi r3.2)], ac [(0, .var [ar a0.t.Switches, ba a0.t.Links, aL a0.t.Hosts, vi a0.p.Op, vi a0.p.F, vh a0.p.N, ax a0.p.Kids, ar a0.state, .loc 1 0 a0.found.length]), (1, .lst false none (List.map (eL (some 8) (eA8 (D.int .u16))) a0.found))], 2⟩ ?_ ?_
 ·
  iterate 3 refine q1 _ ?_
  refine step (v := vs1 a0.p) (cb (ds := [.int .i64 a0.p.Op, .int .i64 a0.p.F, .int .u16 a0.p.N, eL (some 4) aN a0.p.Kids]) rfl rfl (show 7 ≤ 9 by decide) rfl) ?_
  iterate 5 refine q1 _ ?_
  refine bC (r := .tup [eL (some 8) (eA8 (D.int .u16)) r3.1, .int .i64 r3.2]) (aF (aF (aF aQ.nil'))) (mc hr3) ?_
  iterate 5 refine q1 _ ?_
  exact nR [0, 1]
 refine aG ?_
 refine am ⟨tab [(0, .ptr 0 0 0), (1, .d (eL (some 8) (eA8 (D.int .u16)) l2)), (7, .d (eL (some 8) (eA8 (D.int .u16)) r3.1)), (8, vi r3.2), (32, vb (r3.2 != 0))], ac [(0, .var [ar a0.t.Switches, ba a0.t.Links, aL a0.t.Hosts, vi a0.p.Op, vi a0.p.F, vh a0.p.N, ax a0.p.Kids, ar a0.state, .loc 1 0 a0.found.length]), (1, .lst false none (List.map (eL (some 8) (eA8 (D.int .u16))) a0.found))], 2⟩ ?_ ?_
 ·
  iterate 2 refine q1 _ ?_
  exact nR [0, 1]
 by_cases hc4 : (r3.2 != 0) = true
 ·
  replace h := aO hc4 h
  refine aY (t := (r3.2 != 0)) rfl hc4 ?_
  refine am ⟨tab [(6, vi r3.2)], ac [(0, .var [ar a0.t.Switches, ba a0.t.Links, aL a0.t.Hosts, vi a0.p.Op, vi a0.p.F, vh a0.p.N, ax a0.p.Kids, ar a0.state, .loc 1 0 a0.found.length]), (1, .lst false none (List.map (eL (some 8) (eA8 (D.int .u16))) a0.found))], 2⟩ ?_ ?_
  ·
   iterate 2 refine q1 _ ?_
   exact nR [0, 1]
  have hh := aq h
  subst hh
  refine bb (s0 := ⟨tab [(6, vi r3.2)], ac [(0, .var [ar a0.t.Switches, ba a0.t.Links, aL a0.t.Hosts, vi a0.p.Op, vi a0.p.F, vh a0.p.N, ax a0.p.Kids, ar a0.state, .loc 2 0 a0.found.length]), (2, .lst false none (List.map (eL (some 8) (eA8 (D.int .u16))) a0.found))], 3⟩) (mU [0, 1, 1] [0, 2] (by decide) rfl (by decide) (by decide) ⟨.d _, trivial⟩ ⟨⟨show 0 < 3 by decide, _, rfl, .vars ⟨.d _, .d _, .d _, .d _, .d _, .d _, .d _, .d _, .lc 2, trivial⟩⟩, ⟨show 2 < 3 by decide, _, rfl, .lst _ _ _⟩, trivial⟩) ?_
  refine aV ?_
  exact ⟨.inr rfl, _, rfl, rfl, dh.sub ⟨rfl, rfl, trivial⟩, rfl⟩
 ·
  replace h := aP hc4 h
  refine aW (t := (r3.2 != 0)) rfl hc4 ?_
  refine bh ?_
  refine aG ?_
  refine am ⟨tab [(0, .ptr 0 0 0), (1, .d (eL (some 8) (eA8 (D.int .u16)) l2)), (7, .d (eL (some 8) (eA8 (D.int .u16)) r3.1)), (36, vb ((r3.1.length : Int) == 0))], ac [(0, .var [ar a0.t.Switches, ba a0.t.Links, aL a0.t.Hosts, vi a0.p.Op, vi a0.p.F, vh a0.p.N, ax a0.p.Kids, ar a0.state, .loc 1 0 a0.found.length]), (1, .lst false none (List.map (eL (some 8) (eA8 (D.int .u16))) a0.found))], 2⟩ ?_ ?_
  ·
   refine q1 _ ?_
   refine step (v := vi (r3.1.length : Int)) (bF (xs := r3.1) (e := (eA8 (D.int .u16))) rfl) ?_
   refine q1 _ ?_
   exact nR [0, 1]
  by_cases hc5 : ((r3.1.length : Int) == 0) = true
  ·
   replace h := aO hc5 h
   refine aY (t := ((r3.1.length : Int) == 0)) rfl hc5 ?_
   obtain ⟨r6, hr6, h⟩ := ay h
   refine am ⟨tab [(6, vi r6.1)], ac [(0, .var [ar r6.2.t.Switches, ba r6.2.t.Links, aL r6.2.t.Hosts, vi r6.2.p.Op, vi r6.2.p.F, vh r6.2.p.N, ax r6.2.p.Kids, ar r6.2.state, .loc 2 0 r6.2.found.length]), (2, .lst false none (List.map (eL (some 8) (eA8 (D.int .u16))) r6.2.found))], 3⟩ ?_ ?_
   ·
    iterate 2 refine q1 _ ?_
    refine gF (v := vi r6.1) (σ' := (al (al (al (al (ac [(0, .var [ar a0.t.Switches, ba a0.t.Links, aL a0.t.Hosts, vi a0.p.Op, vi a0.p.F, vh a0.p.N, ax a0.p.Kids, ar a0.state, .loc 1 0 a0.found.length]), (1, .lst false none (List.map (eL (some 8) (eA8 (D.int .u16))) a0.found))]) 1 none) 0 none) 2 (some (.lst false none (List.map (eL (some 8) (eA8 (D.int .u16))) r6.2.found)))) 0 (some (.var [ar r6.2.t.Switches, ba r6.2.t.Links, aL r6.2.t.Hosts, vi r6.2.p.Op, vi r6.2.p.F, vh r6.2.p.N, ax r6.2.p.Kids, ar r6.2.state, .loc 2 0 r6.2.found.length])))) (n' := 3) (gG [0, 1] (sN hr6) (show 2 ≤ 3 by decide) (by decide) (show ∀ i ∈ [0, 1], i < 2 by decide) (d8 (show 0 < 3 by decide) (d8 (show 2 < 3 by decide) fz)) (bo.c (.pt 0) (bo.c (.d _) bo.nil0)) (SN.c (show 0 < 2 by decide) rfl (.vars (bo.c (.d _) (bo.c (.d _) (bo.c (.d _) (bo.c (.d _) (bo.c (.d _) (bo.c (.d _) (bo.c (.d _) (bo.c (.d _) (bo.c (.lc 1) bo.nil0)))))))))) (SN.c (show 1 < 2 by decide) rfl (.lst _ _ _) SN.nil0))) (show 2 ≤ 3 by decide) ?_
    refine q1 _ ?_
    exact nR [0, 1, 2]
   have hh := aq h
   subst hh
   refine aV ?_
   exact ⟨.inr rfl, _, rfl, rfl, dh.sub ⟨rfl, rfl, trivial⟩, rfl⟩
  ·
   replace h := aP hc5 h
   refine aW (t := ((r3.1.length : Int) == 0)) rfl hc5 ?_
   refine bh ?_
   refine aG ?_
   refine am ⟨tab [(0, .ptr 0 0 0), (1, .d (eL (some 8) (eA8 (D.int .u16)) l2)), (40, .d (eL (some 8) (eA8 (D.int .u16)) r3.1)), (41, vi (r3.1.length : Int)), (42, vi 0)], ac [(0, .var [ar a0.t.Switches, ba a0.t.Links, aL a0.t.Hosts, vi a0.p.Op, vi a0.p.F, vh a0.p.N, ax a0.p.Kids, ar a0.state, .loc 1 0 a0.found.length]), (1, .lst false none (List.map (eL (some 8) (eA8 (D.int .u16))) a0.found))], 2⟩ ?_ ?_
   ·
    refine q1 _ ?_
    refine step (v := vi (r3.1.length : Int)) (bF (xs := r3.1) (e := (eA8 (D.int .u16))) rfl) ?_
    refine q1 _ ?_
    exact nR [0, 1]
   obtain ⟨q53, hl, h⟩ := ay h
   refine bb (s0 := ⟨tab [(0, .ptr 0 0 0), (1, .d (eL (some 8) (eA8 (D.int .u16)) l2)), (40, .d (eL (some 8) (eA8 (D.int .u16)) r3.1)), (41, vi (r3.1.length : Int)), (42, vi 0)], ac [(0, .var [ar a0.t.Switches, ba a0.t.Links, aL a0.t.Hosts, vi a0.p.Op, vi a0.p.F, vh a0.p.N, ax a0.p.Kids, ar a0.state, .loc 2 0 a0.found.length]), (2, .lst false none (List.map (eL (some 8) (eA8 (D.int .u16))) a0.found))], 3⟩) (mU [0, 1, 1] [0, 2] (by decide) rfl (by decide) (by decide) ⟨.pt 0, .d _, .d _, .d _, .d _, trivial⟩ ⟨⟨show 0 < 3 by decide, _, rfl, .vars ⟨.d _, .d _, .d _, .d _, .d _, .d _, .d _, .d _, .lc 2, trivial⟩⟩, ⟨show 2 < 3 by decide, _, rfl, .lst _ _ _⟩, trivial⟩) ?_
   refine bG ?_
   refine dp (cQ (r3.1.length : Int)) (fun (i16 : Int) (qq : ((List Int) × (List (A2 api_Port)) × (List api_Port) × Int × Int × Int × (List ai) × (List Int) × (List (List (A8 Int))))) => ⟨tab [(0, .ptr 0 0 0), (1, .d (eL (some 8) (eA8 (D.int .u16)) l2)), (40, .d (eL (some 8) (eA8 (D.int .u16)) r3.1)), (41, vi (r3.1.length : Int)), (42, vi i16)], ac [(0, .var [ar qq.1, ba qq.2.1, aL qq.2.2.1, vi qq.2.2.2.1, vi qq.2.2.2.2.1, vh qq.2.2.2.2.2.1, ax qq.2.2.2.2.2.2.1, ar qq.2.2.2.2.2.2.2.1, .loc 2 0 qq.2.2.2.2.2.2.2.2.length]), (2, .lst false none (List.map (eL (some 8) (eA8 (D.int .u16))) qq.2.2.2.2.2.2.2.2))], 3⟩) 0 (fun (qq : ((List Int) × (List (A2 api_Port)) × (List api_Port) × Int × Int × Int × (List ai) × (List Int) × (List (List (A8 Int))))) => ⟨tab [], ac [(0, .var [ar qq.1, ba qq.2.1, aL qq.2.2.1, vi qq.2.2.2.1, vi qq.2.2.2.2.1, vh qq.2.2.2.2.2.1, ax qq.2.2.2.2.2.2.1, ar qq.2.2.2.2.2.2.2.1, .loc 2 0 qq.2.2.2.2.2.2.2.2.length]), (2, .lst false none (List.map (eL (some 8) (eA8 (D.int .u16))) qq.2.2.2.2.2.2.2.2))], 3⟩) bK cR (r := r) hl (by unfold bK; omega) ?_ ?_ ?_ ?_
   ·
    rintro i16 ⟨y7, y8, y9, i10, i11, i12, y13, y14, l15⟩ xr21 hinv19 hgo18 h
    show aI _ _ _ _ _ ⟨tab [(0, .ptr 0 0 0), (1, .d (eL (some 8) (eA8 (D.int .u16)) l2)), (40, .d (eL (some 8) (eA8 (D.int .u16)) r3.1)), (41, vi (r3.1.length : Int)), (42, vi i16)], ac [(0, .var [ar y7, ba y8, aL y9, vi i10, vi i11, vh i12, ax y13, ar y14, .loc 2 0 l15.length]), (2, .lst false none (List.map (eL (some 8) (eA8 (D.int .u16))) l15))], 3⟩
    have hc20 : decide (i16 < (r3.1.length : Int)) = true := decide_eq_true hgo18
    refine am ⟨tab [(0, .ptr 0 0 0), (1, .d (eL (some 8) (eA8 (D.int .u16)) l2)), (40, .d (eL (some 8) (eA8 (D.int .u16)) r3.1)), (41, vi (r3.1.length : Int)), (42, vi i16), (43, vb (decide (i16 < (r3.1.length : Int))))], ac [(0, .var [ar y7, ba y8, aL y9, vi i10, vi i11, vh i12, ax y13, ar y14, .loc 2 0 l15.length]), (2, .lst false none (List.map (eL (some 8) (eA8 (D.int .u16))) l15))], 3⟩ ?_ ?_
    ·
     refine q1 _ ?_
     exact nR [0, 1, 2]
    refine c8 41 rfl fun hB17 => ?_
    refine aG ?_
    refine aY (t := decide (i16 < (r3.1.length : Int))) rfl hc20 ?_
    refine bh ?_
    refine aG ?_
    refine bG ?_
    obtain ⟨x22, hx22, h⟩ := ay h
    refine am ⟨tab [(0, .ptr 0 0 0), (1, .d (eL (some 8) (eA8 (D.int .u16)) l2)), (10, .ptr 3 0 0), (40, .d (eL (some 8) (eA8 (D.int .u16)) r3.1)), (41, vi (r3.1.length : Int)), (42, vi i16)], ac [(0, .var [ar y7, ba y8, aL y9, vi i10, vi i11, vh i12, ax y13, ar y14, .loc 2 0 l15.length]), (2, .lst false none (List.map (eL (some 8) (eA8 (D.int .u16))) l15)), (3, .var [vh x22.a0, vh x22.a1, vh x22.a2, vh x22.a3, vh x22.a4, vh x22.a5, vh x22.a6, vh x22.a7])], 4⟩ ?_ ?_
    ·
     refine step (v := .d (.cptr (some 8) (eA8 (D.int .u16) x22) 0)) (cl (xs := r3.1) (e := (eA8 (D.int .u16))) hx22 rfl rfl) ?_
     refine q1 _ ?_
     refine step (v := .ptr 3 0 0) (σ' := (al (ac [(0, .var [ar y7, ba y8, aL y9, vi i10, vi i11, vh i12, ax y13, ar y14, .loc 2 0 l15.length]), (2, .lst false none (List.map (eL (some 8) (eA8 (D.int .u16))) l15))]) 3 (some (ce)))) (n' := 4) rfl ?_
     refine step (v := V.undef) (σ' := (al (al (ac [(0, .var [ar y7, ba y8, aL y9, vi i10, vi i11, vh i12, ax y13, ar y14, .loc 2 0 l15.length]), (2, .lst false none (List.map (eL (some 8) (eA8 (D.int .u16))) l15))]) 3 (some (ce))) 3 (some (.var [vh x22.a0, vh x22.a1, vh x22.a2, vh x22.a3, vh x22.a4, vh x22.a5, vh x22.a6, vh x22.a7])))) (n' := 4) rfl ?_
     exact nR [0, 1, 2, 3]
    obtain ⟨r23, hr23, h⟩ := ay h
    refine am ⟨tab [(0, .ptr 0 0 0), (1, .d (eL (some 8) (eA8 (D.int .u16)) l2)), (10, .ptr 3 0 0), (11, .ptr 4 0 0), (12, vi r23.2), (40, .d (eL (some 8) (eA8 (D.int .u16)) r3.1)), (41, vi (r3.1.length : Int)), (42, vi i16)], ac [(0, .var [ar y7, ba y8, aL y9, vi i10, vi i11, vh i12, ax y13, ar y14, .loc 2 0 l15.length]), (2, .lst false none (List.map (eL (some 8) (eA8 (D.int .u16))) l15)), (3, .var [vh x22.a0, vh x22.a1, vh x22.a2, vh x22.a3, vh x22.a4, vh x22.a5, vh x22.a6, vh x22.a7]), (4, .var [vh r23.1.a0, vh r23.1.a1, vh r23.1.a2, vh r23.1.a3, vh r23.1.a4, vh r23.1.a5, vh r23.1.a6, vh r23.1.a7])], 5⟩ ?_ ?_
    ·
     iterate 3 refine q1 _ ?_
     refine step (v := eG (api_Topo.mk y7 y8 y9)) (cb (ds := [eL none (D.int .u16) y7, eL (some 4) (cX eapi_Port) y8, eL (some 2) eapi_Port y9]) rfl rfl (show 3 ≤ 9 by decide) rfl) ?_
     refine step (v := .d (eA8 (D.int .u16) x22)) (cb (ds := [.int .u16 x22.a0, .int .u16 x22.a1, .int .u16 x22.a2, .int .u16 x22.a3, .int .u16 x22.a4, .int .u16 x22.a5, .int .u16 x22.a6, .int .u16 x22.a7]) rfl rfl (show 8 ≤ 8 by decide) rfl) ?_
     refine bC (r := .tup [eA8 (D.int .u16) r23.1, .int .i64 r23.2]) (aF (aF aQ.nil')) (oJ hr23) ?_
     iterate 3 refine q1 _ ?_
     refine step (v := .ptr 4 0 0) (σ' := (al (ac [(0, .var [ar y7, ba y8, aL y9, vi i10, vi i11, vh i12, ax y13, ar y14, .loc 2 0 l15.length]), (2, .lst false none (List.map (eL (some 8) (eA8 (D.int .u16))) l15)), (3, .var [vh x22.a0, vh x22.a1, vh x22.a2, vh x22.a3, vh x22.a4, vh x22.a5, vh x22.a6, vh x22.a7])]) 4 (some (ce)))) (n' := 5) rfl ?_
     refine step (v := V.undef) (σ' := (al (al (ac [(0, .var [ar y7, ba y8, aL y9, vi i10, vi i11, vh i12, ax y13, ar y14, .loc 2 0 l15.length]), (2, .lst false none (List.map (eL (some 8) (eA8 (D.int .u16))) l15)), (3, .var [vh x22.a0, vh x22.a1, vh x22.a2, vh x22.a3, vh x22.a4, vh x22.a5, vh x22.a6, vh x22.a7])]) 4 (some (ce))) 4 (some (.var [vh r23.1.a0, vh r23.1.a1, vh r23.1.a2, vh r23.1.a3, vh r23.1.a4, vh r23.1.a5, vh r23.1.a6, vh r23.1.a7])))) (n' := 5) rfl ?_
     refine q1 _ ?_
     exact nR [0, 1, 2, 3, 4]
    obtain ⟨q42, hv, h⟩ := ay h
    obtain ⟨y32, y33, y34, y35, y36, y37, y38, y39, l40, y41⟩ := q42
    refine gV ⟨tab [(0, .ptr 0 0 0), (1, .d (eL (some 8) (eA8 (D.int .u16)) l2)), (8, vi y41), (40, .d (eL (some 8) (eA8 (D.int .u16)) r3.1)), (41, vi (r3.1.length : Int)), (42, vi i16)], ac [(0, .var [ar y32, ba y33, aL y34, vi y35, vi y36, vh y37, ax y38, ar y39, .loc 2 0 l40.length]), (2, .lst false none (List.map (eL (some 8) (eA8 (D.int .u16))) l40))], 3⟩ ?_ ?_
    ·
     replace h := hv
     refine am ⟨tab [(0, .ptr 0 0 0), (1, .d (eL (some 8) (eA8 (D.int .u16)) l2)), (10, .ptr 3 0 0), (11, .ptr 4 0 0), (40, .d (eL (some 8) (eA8 (D.int .u16)) r3.1)), (41, vi (r3.1.length : Int)), (42, vi i16), (61, vb ((r23.2 == 0) && (decide ((l2.length : Int) < 23))))], ac [(0, .var [ar y7, ba y8, aL y9, vi i10, vi i11, vh i12, ax y13, ar y14, .loc 2 0 l15.length]), (2, .lst false none (List.map (eL (some 8) (eA8 (D.int .u16))) l15)), (3, .var [vh x22.a0, vh x22.a1, vh x22.a2, vh x22.a3, vh x22.a4, vh x22.a5, vh x22.a6, vh x22.a7]), (4, .var [vh r23.1.a0, vh r23.1.a1, vh r23.1.a2, vh r23.1.a3, vh r23.1.a4, vh r23.1.a5, vh r23.1.a6, vh r23.1.a7])], 5⟩ ?_ ?_
     ·
      iterate 3 refine q1 _ ?_
      by_cases hg24 : (r23.2 == 0) = true
      ·
       refine qG _ hg24 ?_
       refine q1 _ ?_
       refine qG _ hg24 ?_
       refine step (v := vi (l2.length : Int)) (bF (xs := l2) (e := (eA8 (D.int .u16))) rfl) ?_
       refine qG _ hg24 ?_
       refine q1 _ ?_
       refine step (v := vb (decide ((l2.length : Int) < 23))) (bw (b := (r23.2 == 0)) rfl hg24 rfl) ?_
       exact aZ.nil' (nm [0, 1, 2, 3, 4] ⟨.pt 0, .d _, .pt 3, .pt 4, .d _, .d _, .d _, .eq (by first | (simp [hg24]; done) | (simp_all; done) | grind), trivial⟩ ⟨⟨show 0 < 5 by decide, _, rfl, .vars ⟨.d _, .d _, .d _, .d _, .d _, .d _, .d _, .d _, .lc 2, trivial⟩⟩, ⟨show 2 < 5 by decide, _, rfl, .lst _ _ _⟩, ⟨show 3 < 5 by decide, _, rfl, .vars ⟨.d _, .d _, .d _, .d _, .d _, .d _, .d _, .d _, trivial⟩⟩, ⟨show 4 < 5 by decide, _, rfl, .vars ⟨.d _, .d _, .d _, .d _, .d _, .d _, .d _, .d _, trivial⟩⟩, trivial⟩)
      ·
       iterate 3 refine qX _ hg24 ?_
       refine step (v := vb false) (bp (b := (r23.2 == 0)) rfl hg24 rfl) ?_
       exact aZ.nil' (nm [0, 1, 2, 3, 4] ⟨.pt 0, .d _, .pt 3, .pt 4, .d _, .d _, .d _, .eq (by first | (simp [hg24]; done) | (simp_all; done) | grind), trivial⟩ ⟨⟨show 0 < 5 by decide, _, rfl, .vars ⟨.d _, .d _, .d _, .d _, .d _, .d _, .d _, .d _, .lc 2, trivial⟩⟩, ⟨show 2 < 5 by decide, _, rfl, .lst _ _ _⟩, ⟨show 3 < 5 by decide, _, rfl, .vars ⟨.d _, .d _, .d _, .d _, .d _, .d _, .d _, .d _, trivial⟩⟩, ⟨show 4 < 5 by decide, _, rfl, .vars ⟨.d _, .d _, .d _, .d _, .d _, .d _, .d _, .d _, trivial⟩⟩, trivial⟩)
     by_cases hc25 : ((r23.2 == 0) && (decide ((l2.length : Int) < 23))) = true
     ·
      replace h := aO hc25 h
      refine aY (t := ((r23.2 == 0) && (decide ((l2.length : Int) < 23)))) rfl hc25 ?_
      obtain ⟨r26, hr26, h⟩ := ay h
      obtain ⟨l27, hl27, h⟩ := ay h
      obtain ⟨r28, hr28, h⟩ := ay h
      have hh := aq h
      obtain ⟨he0, ht0⟩ := Prod.mk.inj hh
      obtain ⟨he1, ht1⟩ := Prod.mk.inj ht0
      obtain ⟨he2, ht2⟩ := Prod.mk.inj ht1
      obtain ⟨he3, ht3⟩ := Prod.mk.inj ht2
      obtain ⟨he4, ht4⟩ := Prod.mk.inj ht3
      obtain ⟨he5, ht5⟩ := Prod.mk.inj ht4
      obtain ⟨he6, ht6⟩ := Prod.mk.inj ht5
      obtain ⟨he7, ht7⟩ := Prod.mk.inj ht6
      obtain ⟨he8, ht8⟩ := Prod.mk.inj ht7
      subst he0
      subst he1
      subst he2
      subst he3
      subst he4
      subst he5
      subst he6
      subst he7
      subst he8
      subst ht8
      refine lY ⟨tab [(0, .ptr 0 0 0), (1, .d (eL (some 8) (eA8 (D.int .u16)) l2)), (8, vi r28.1), (40, .d (eL (some 8) (eA8 (D.int .u16)) r3.1)), (41, vi (r3.1.length : Int)), (42, vi i16)], ac [(0, .var [ar r28.2.t.Switches, ba r28.2.t.Links, aL r28.2.t.Hosts, vi r28.2.p.Op, vi r28.2.p.F, vh r28.2.p.N, ax r28.2.p.Kids, ar r28.2.state, .loc 2 0 r28.2.found.length]), (2, .lst false none (List.map (eL (some 8) (eA8 (D.int .u16))) r28.2.found))], 3⟩ ?_ ?_
      ·
       refine b9 [] [] (v := .ptr 0 0 0) rfl rfl rfl ?_
       refine b9 [] [] (v := .d (eL (some 8) (eA8 (D.int .u16)) l2)) rfl rfl rfl ?_
       refine lW (σ' := (al (ac [(0, .var [ar y7, ba y8, aL y9, vi i10, vi i11, vh i12, ax y13, ar y14, .loc 2 0 l15.length]), (2, .lst false none (List.map (eL (some 8) (eA8 (D.int .u16))) l15)), (3, .var [vh x22.a0, vh x22.a1, vh x22.a2, vh x22.a3, vh x22.a4, vh x22.a5, vh x22.a6, vh x22.a7]), (4, .var [vh r23.1.a0, vh r23.1.a1, vh r23.1.a2, vh r23.1.a3, vh r23.1.a4, vh r23.1.a5, vh r23.1.a6, vh r23.1.a7])]) 5 (some (.lst false (some 8) (List.map (eA8 (D.int .u16)) r26))))) (R := []) (W := []) (m := 6) (lZ [] (bY.frz (ma hr26)) (by decide) (by decide) (by decide) (d8 (show 0 < 1 by decide) fz) [] rfl (bo.c (.d _) bo.nil0) SN.nil0 (.loc 5 0 r26.length) rfl [(5, some (.lst false (some 8) (List.map (eA8 (D.int .u16)) r26)))] [] 6 rfl rfl rfl rfl (fun _ => rfl)) trivial rfl rfl ?_
       refine b9 [3] [] (v := .d (eA8 (D.int .u16) x22)) (cb (ds := [.int .u16 x22.a0, .int .u16 x22.a1, .int .u16 x22.a2, .int .u16 x22.a3, .int .u16 x22.a4, .int .u16 x22.a5, .int .u16 x22.a6, .int .u16 x22.a7]) rfl rfl (show 8 ≤ 8 by decide) rfl) rfl rfl ?_
       refine b9 [] [] (v := .d (eL (some 8) (eA8 (D.int .u16)) ([x22] : List (A8 Int)))) rfl rfl rfl ?_
       refine b9 [5] [5] (v := .loc 6 0 l27.length) (σ' := (al (al (al (ac [(0, .var [ar y7, ba y8, aL y9, vi i10, vi i11, vh i12, ax y13, ar y14, .loc 2 0 l15.length]), (2, .lst false none (List.map (eL (some 8) (eA8 (D.int .u16))) l15)), (3, .var [vh x22.a0, vh x22.a1, vh x22.a2, vh x22.a3, vh x22.a4, vh x22.a5, vh x22.a6, vh x22.a7]), (4, .var [vh r23.1.a0, vh r23.1.a1, vh r23.1.a2, vh r23.1.a3, vh r23.1.a4, vh r23.1.a5, vh r23.1.a6, vh r23.1.a7])]) 5 (some (.lst false (some 8) (List.map (eA8 (D.int .u16)) r26)))) 5 none) 6 (some (.lst false (some 8) (List.map (eA8 (D.int .u16)) l27))))) (n' := 7) (eP (xs := r26) (ys := ([x22] : List (A8 Int))) (e := (eA8 (D.int .u16))) hl27 rfl rfl rfl (fc (xs := ([x22] : List (A8 Int))) (e := (eA8 (D.int .u16))) rfl)) rfl rfl ?_
       refine b9 [4] [] (v := .d (eA8 (D.int .u16) r23.1)) (cb (ds := [.int .u16 r23.1.a0, .int .u16 r23.1.a1, .int .u16 r23.1.a2, .int .u16 r23.1.a3, .int .u16 r23.1.a4, .int .u16 r23.1.a5, .int .u16 r23.1.a6, .int .u16 r23.1.a7]) rfl rfl (show 8 ≤ 8 by decide) rfl) rfl rfl ?_
       refine lW (σ' := (al (al (al (al (al (al (al (ac [(0, .var [ar y7, ba y8, aL y9, vi i10, vi i11, vh i12, ax y13, ar y14, .loc 2 0 l15.length]), (2, .lst false none (List.map (eL (some 8) (eA8 (D.int .u16))) l15)), (3, .var [vh x22.a0, vh x22.a1, vh x22.a2, vh x22.a3, vh x22.a4, vh x22.a5, vh x22.a6, vh x22.a7]), (4, .var [vh r23.1.a0, vh r23.1.a1, vh r23.1.a2, vh r23.1.a3, vh r23.1.a4, vh r23.1.a5, vh r23.1.a6, vh r23.1.a7])]) 5 (some (.lst false (some 8) (List.map (eA8 (D.int .u16)) r26)))) 5 none) 6 (some (.lst false (some 8) (List.map (eA8 (D.int .u16)) l27)))) 2 none) 0 none) 7 (some (.lst false none (List.map (eL (some 8) (eA8 (D.int .u16))) r28.2.found)))) 0 (some (.var [ar r28.2.t.Switches, ba r28.2.t.Links, aL r28.2.t.Hosts, vi r28.2.p.Op, vi r28.2.p.F, vh r28.2.p.N, ax r28.2.p.Kids, ar r28.2.state, .loc 7 0 r28.2.found.length])))) (R := [0, 2, 6]) (W := [0, 2]) (m := 8) (gl.sees (lZ [0, 2] (hself _ _ _ _ hr28) (by decide) (by decide) (by decide) (d8 (show 0 < 3 by decide) (d8 (show 2 < 3 by decide) fz)) [(0, .var [ar y7, ba y8, aL y9, vi i10, vi i11, vh i12, ax y13, ar y14, .loc 2 0 l15.length]), (2, .lst false none (List.map (eL (some 8) (eA8 (D.int .u16))) l15))] rfl (bo.c (.pt 0) (bo.c (.d _) (bo.c (.d _) bo.nil0))) (SN.c (show 0 < 2 by decide) rfl (.vars (bo.c (.d _) (bo.c (.d _) (bo.c (.d _) (bo.c (.d _) (bo.c (.d _) (bo.c (.d _) (bo.c (.d _) (bo.c (.d _) (bo.c (.lc 1) bo.nil0)))))))))) (SN.c (show 1 < 2 by decide) rfl (.lst _ _ _) SN.nil0)) (vi r28.1) rfl [(2, none), (0, none), (7, some (.lst false none (List.map (eL (some 8) (eA8 (D.int .u16))) r28.2.found))), (0, some (.var [ar r28.2.t.Switches, ba r28.2.t.Links, aL r28.2.t.Hosts, vi r28.2.p.Op, vi r28.2.p.F, vh r28.2.p.N, ax r28.2.p.Kids, ar r28.2.state, .loc 7 0 r28.2.found.length]))] [0, 2] 8 rfl rfl rfl rfl (fun _ => rfl)) [(6, .lst false (some 8) (List.map (eA8 (D.int .u16)) l27))] (fun σ hq => ⟨.inl rfl, ⟨.inr ⟨_, nc (xs := l27) (e := (eA8 (D.int .u16))) (hq (6, .lst false (some 8) (List.map (eA8 (D.int .u16)) l27)) (.head _)) rfl, rfl⟩, ⟨.inl rfl, trivial⟩⟩⟩)) ⟨rfl, rfl, rfl, trivial⟩ rfl rfl ?_
       refine b9 [] [] (v := vi r28.1) rfl rfl rfl ?_
       exact cg.nil' ⟨by decide, nr [0, 1, 7]⟩
      exact And.intro rfl rfl
     ·
      replace h := aP hc25 h
      refine aW (t := ((r23.2 == 0) && (decide ((l2.length : Int) < 23)))) rfl hc25 ?_
      obtain ⟨r29, hr29, h⟩ := ay h
      obtain ⟨l30, hl30, h⟩ := ay h
      obtain ⟨r31, hr31, h⟩ := ay h
      have hh := aq h
      obtain ⟨he0, ht0⟩ := Prod.mk.inj hh
      obtain ⟨he1, ht1⟩ := Prod.mk.inj ht0
      obtain ⟨he2, ht2⟩ := Prod.mk.inj ht1
      obtain ⟨he3, ht3⟩ := Prod.mk.inj ht2
      obtain ⟨he4, ht4⟩ := Prod.mk.inj ht3
      obtain ⟨he5, ht5⟩ := Prod.mk.inj ht4
      obtain ⟨he6, ht6⟩ := Prod.mk.inj ht5
      obtain ⟨he7, ht7⟩ := Prod.mk.inj ht6
      obtain ⟨he8, ht8⟩ := Prod.mk.inj ht7
      subst he0
      subst he1
      subst he2
      subst he3
      subst he4
      subst he5
      subst he6
      subst he7
      subst he8
      subst ht8
      refine lY ⟨tab [(0, .ptr 0 0 0), (1, .d (eL (some 8) (eA8 (D.int .u16)) l2)), (8, vi r31.1), (40, .d (eL (some 8) (eA8 (D.int .u16)) r3.1)), (41, vi (r3.1.length : Int)), (42, vi i16)], ac [(0, .var [ar r31.2.t.Switches, ba r31.2.t.Links, aL r31.2.t.Hosts, vi r31.2.p.Op, vi r31.2.p.F, vh r31.2.p.N, ax r31.2.p.Kids, ar r31.2.state, .loc 2 0 r31.2.found.length]), (2, .lst false none (List.map (eL (some 8) (eA8 (D.int .u16))) r31.2.found))], 3⟩ ?_ ?_
      ·
       refine b9 [] [] (v := .ptr 0 0 0) rfl rfl rfl ?_
       refine b9 [] [] (v := .d (eL (some 8) (eA8 (D.int .u16)) l2)) rfl rfl rfl ?_
       refine lW (σ' := (al (ac [(0, .var [ar y7, ba y8, aL y9, vi i10, vi i11, vh i12, ax y13, ar y14, .loc 2 0 l15.length]), (2, .lst false none (List.map (eL (some 8) (eA8 (D.int .u16))) l15)), (3, .var [vh x22.a0, vh x22.a1, vh x22.a2, vh x22.a3, vh x22.a4, vh x22.a5, vh x22.a6, vh x22.a7]), (4, .var [vh r23.1.a0, vh r23.1.a1, vh r23.1.a2, vh r23.1.a3, vh r23.1.a4, vh r23.1.a5, vh r23.1.a6, vh r23.1.a7])]) 5 (some (.lst false (some 8) (List.map (eA8 (D.int .u16)) r29))))) (R := []) (W := []) (m := 6) (lZ [] (bY.frz (ma hr29)) (by decide) (by decide) (by decide) (d8 (show 0 < 1 by decide) fz) [] rfl (bo.c (.d _) bo.nil0) SN.nil0 (.loc 5 0 r29.length) rfl [(5, some (.lst false (some 8) (List.map (eA8 (D.int .u16)) r29)))] [] 6 rfl rfl rfl rfl (fun _ => rfl)) trivial rfl rfl ?_
       refine b9 [3] [] (v := .d (eA8 (D.int .u16) x22)) (cb (ds := [.int .u16 x22.a0, .int .u16 x22.a1, .int .u16 x22.a2, .int .u16 x22.a3, .int .u16 x22.a4, .int .u16 x22.a5, .int .u16 x22.a6, .int .u16 x22.a7]) rfl rfl (show 8 ≤ 8 by decide) rfl) rfl rfl ?_
       refine b9 [] [] (v := .d (eL (some 8) (eA8 (D.int .u16)) ([x22] : List (A8 Int)))) rfl rfl rfl ?_
       refine b9 [5] [5] (v := .loc 6 0 l30.length) (σ' := (al (al (al (ac [(0, .var [ar y7, ba y8, aL y9, vi i10, vi i11, vh i12, ax y13, ar y14, .loc 2 0 l15.length]), (2, .lst false none (List.map (eL (some 8) (eA8 (D.int .u16))) l15)), (3, .var [vh x22.a0, vh x22.a1, vh x22.a2, vh x22.a3, vh x22.a4, vh x22.a5, vh x22.a6, vh x22.a7]), (4, .var [vh r23.1.a0, vh r23.1.a1, vh r23.1.a2, vh r23.1.a3, vh r23.1.a4, vh r23.1.a5, vh r23.1.a6, vh r23.1.a7])]) 5 (some (.lst false (some 8) (List.map (eA8 (D.int .u16)) r29)))) 5 none) 6 (some (.lst false (some 8) (List.map (eA8 (D.int .u16)) l30))))) (n' := 7) (eP (xs := r29) (ys := ([x22] : List (A8 Int))) (e := (eA8 (D.int .u16))) hl30 rfl rfl rfl (fc (xs := ([x22] : List (A8 Int))) (e := (eA8 (D.int .u16))) rfl)) rfl rfl ?_
       refine lW (σ' := (al (al (al (al (al (al (al (ac [(0, .var [ar y7, ba y8, aL y9, vi i10, vi i11, vh i12, ax y13, ar y14, .loc 2 0 l15.length]), (2, .lst false none (List.map (eL (some 8) (eA8 (D.int .u16))) l15)), (3, .var [vh x22.a0, vh x22.a1, vh x22.a2, vh x22.a3, vh x22.a4, vh x22.a5, vh x22.a6, vh x22.a7]), (4, .var [vh r23.1.a0, vh r23.1.a1, vh r23.1.a2, vh r23.1.a3, vh r23.1.a4, vh r23.1.a5, vh r23.1.a6, vh r23.1.a7])]) 5 (some (.lst false (some 8) (List.map (eA8 (D.int .u16)) r29)))) 5 none) 6 (some (.lst false (some 8) (List.map (eA8 (D.int .u16)) l30)))) 2 none) 0 none) 7 (some (.lst false none (List.map (eL (some 8) (eA8 (D.int .u16))) r31.2.found)))) 0 (some (.var [ar r31.2.t.Switches, ba r31.2.t.Links, aL r31.2.t.Hosts, vi r31.2.p.Op, vi r31.2.p.F, vh r31.2.p.N, ax r31.2.p.Kids, ar r31.2.state, .loc 7 0 r31.2.found.length])))) (R := [0, 2, 6]) (W := [0, 2]) (m := 8) (gl.sees (lZ [0, 2] (sN hr31) (by decide) (by decide) (by decide) (d8 (show 0 < 3 by decide) (d8 (show 2 < 3 by decide) fz)) [(0, .var [ar y7, ba y8, aL y9, vi i10, vi i11, vh i12, ax y13, ar y14, .loc 2 0 l15.length]), (2, .lst false none (List.map (eL (some 8) (eA8 (D.int .u16))) l15))] rfl (bo.c (.pt 0) (bo.c (.d _) bo.nil0)) (SN.c (show 0 < 2 by decide) rfl (.vars (bo.c (.d _) (bo.c (.d _) (bo.c (.d _) (bo.c (.d _) (bo.c (.d _) (bo.c (.d _) (bo.c (.d _) (bo.c (.d _) (bo.c (.lc 1) bo.nil0)))))))))) (SN.c (show 1 < 2 by decide) rfl (.lst _ _ _) SN.nil0)) (vi r31.1) rfl [(2, none), (0, none), (7, some (.lst false none (List.map (eL (some 8) (eA8 (D.int .u16))) r31.2.found))), (0, some (.var [ar r31.2.t.Switches, ba r31.2.t.Links, aL r31.2.t.Hosts, vi r31.2.p.Op, vi r31.2.p.F, vh r31.2.p.N, ax r31.2.p.Kids, ar r31.2.state, .loc 7 0 r31.2.found.length]))] [0, 2] 8 rfl rfl rfl rfl (fun _ => rfl)) [(6, .lst false (some 8) (List.map (eA8 (D.int .u16)) l30))] (fun σ hq => ⟨.inl rfl, ⟨.inr ⟨_, nc (xs := l30) (e := (eA8 (D.int .u16))) (hq (6, .lst false (some 8) (List.map (eA8 (D.int .u16)) l30)) (.head _)) rfl, rfl⟩, trivial⟩⟩)) ⟨rfl, rfl, rfl, trivial⟩ rfl rfl ?_
       refine b9 [] [] (v := vi r31.1) rfl rfl rfl ?_
       exact cg.nil' ⟨by decide, nr [0, 1, 7]⟩
      exact And.intro rfl rfl
    refine am ⟨tab [(0, .ptr 0 0 0), (1, .d (eL (some 8) (eA8 (D.int .u16)) l2)), (8, vi y41), (40, .d (eL (some 8) (eA8 (D.int .u16)) r3.1)), (41, vi (r3.1.length : Int)), (42, vi i16), (78, vb (y41 != 0))], ac [(0, .var [ar y32, ba y33, aL y34, vi y35, vi y36, vh y37, ax y38, ar y39, .loc 2 0 l40.length]), (2, .lst false none (List.map (eL (some 8) (eA8 (D.int .u16))) l40))], 3⟩ ?_ ?_
    ·
     iterate 2 refine q1 _ ?_
     exact nR [0, 1, 2]
    by_cases hc43 : (y41 != 0) = true
    ·
     replace h := aO hc43 h
     refine aY (t := (y41 != 0)) rfl hc43 ?_
     refine am ⟨tab [(6, vi y41)], ac [(0, .var [ar y32, ba y33, aL y34, vi y35, vi y36, vh y37, ax y38, ar y39, .loc 2 0 l40.length]), (2, .lst false none (List.map (eL (some 8) (eA8 (D.int .u16))) l40))], 3⟩ ?_ ?_
     ·
      iterate 2 refine q1 _ ?_
      exact nR [0, 1, 2]
     obtain ⟨r44, kr44, hr⟩ := cq (o := some (y41, (cz.mk (api_Topo.mk y32 y33 y34) (ai.mk y35 y36 y37 y38) y39 l40))) (g := Br.ret) h
     subst hr
     have h := kr44
     have hh := aq h
     subst hh
     refine aV ?_
     refine And.intro (fun hn => nomatch hn) ?_
     intro hq
     have hq := hq.symm
     subst hq
     exact ⟨.inr rfl, _, rfl, rfl, dh.sub ⟨rfl, rfl, trivial⟩, rfl⟩
    ·
     replace h := aP hc43 h
     refine aW (t := (y41 != 0)) rfl hc43 ?_
     refine bh ?_
     have hh := aq h
     subst hh
     refine bU ⟨tab [(0, .ptr 0 0 0), (1, .d (eL (some 8) (eA8 (D.int .u16)) l2)), (40, .d (eL (some 8) (eA8 (D.int .u16)) r3.1)), (41, vi (r3.1.length : Int)), (42, vi (i16 + 1))], ac [(0, .var [ar y32, ba y33, aL y34, vi y35, vi y36, vh y37, ax y38, ar y39, .loc 2 0 l40.length]), (2, .lst false none (List.map (eL (some 8) (eA8 (D.int .u16))) l40))], 3⟩ ?_ ?_
     ·
      refine step (v := vi (i16 + 1)) (cL (cM hinv19 hgo18 hB17) rfl rfl) ?_
      refine q1 _ ?_
      exact nR [0, 1, 2]
     exact And.intro rfl rfl
   ·
    rintro i16 ⟨y7, y8, y9, i10, i11, i12, y13, y14, l15⟩ hinv19 hgo18
    show aI _ _ _ _ _ ⟨tab [(0, .ptr 0 0 0), (1, .d (eL (some 8) (eA8 (D.int .u16)) l2)), (40, .d (eL (some 8) (eA8 (D.int .u16)) r3.1)), (41, vi (r3.1.length : Int)), (42, vi i16)], ac [(0, .var [ar y7, ba y8, aL y9, vi i10, vi i11, vh i12, ax y13, ar y14, .loc 2 0 l15.length]), (2, .lst false none (List.map (eL (some 8) (eA8 (D.int .u16))) l15))], 3⟩
    have hc20 : ¬ (decide (i16 < (r3.1.length : Int)) = true) := fun hq => hgo18 (of_decide_eq_true hq)
    refine am ⟨tab [(0, .ptr 0 0 0), (1, .d (eL (some 8) (eA8 (D.int .u16)) l2)), (40, .d (eL (some 8) (eA8 (D.int .u16)) r3.1)), (41, vi (r3.1.length : Int)), (42, vi i16), (43, vb (decide (i16 < (r3.1.length : Int))))], ac [(0, .var [ar y7, ba y8, aL y9, vi i10, vi i11, vh i12, ax y13, ar y14, .loc 2 0 l15.length]), (2, .lst false none (List.map (eL (some 8) (eA8 (D.int .u16))) l15))], 3⟩ ?_ ?_
    ·
     refine q1 _ ?_
     exact nR [0, 1, 2]
    refine aG ?_
    refine aW (t := decide (i16 < (r3.1.length : Int))) rfl hc20 ?_
    refine bb (s0 := ⟨tab [], ac [(0, .var [ar y7, ba y8, aL y9, vi i10, vi i11, vh i12, ax y13, ar y14, .loc 2 0 l15.length]), (2, .lst false none (List.map (eL (some 8) (eA8 (D.int .u16))) l15))], 3⟩) (nr [0, 1, 2]) ?_
    refine cI ?_
    exact And.intro rfl rfl
   ·
    intro r' hq
    subst hq
    exact aq h
   rintro ⟨z44, z45, z46, z47, z48, z49, z50, z51, z52⟩ rfl
   refine am ⟨tab [(6, vi 0)], ac [(0, .var [ar z44, ba z45, aL z46, vi z47, vi z48, vh z49, ax z50, ar z51, .loc 2 0 z52.length]), (2, .lst false none (List.map (eL (some 8) (eA8 (D.int .u16))) z52))], 3⟩ ?_ ?_
   ·
    refine q1 _ ?_
    exact nR [0, 1, 2]
   have hh := aq h
   subst hh
   refine aV ?_
   exact ⟨.inr rfl, _, rfl, rfl, dh.sub ⟨rfl, rfl, trivial⟩, rfl⟩
theorem sO : ∀ (k : Nat) (a0 : cz) (a1 : (List (A8 Int))) (a2 : (A8 Int)) (r : (Int × cz)), jd k a0 a1 a2 = some r → bY Try.prog 68 [.ptr 0 0 0, .d (eL (some 8) (eA8 (D.int .u16)) a1), .d (eA8 (D.int .u16) a2)] (ac [(0, .var [ar a0.t.Switches, ba a0.t.Links, aL a0.t.Hosts, vi a0.p.Op, vi a0.p.F, vh a0.p.N, ax a0.p.Kids, ar a0.state, .loc 1 0 a0.found.length]), (1, .lst false none (List.map (eL (some 8) (eA8 (D.int .u16))) a0.found))]) 2 (vi r.1) (ac [(0, .var [ar r.2.t.Switches, ba r.2.t.Links, aL r.2.t.Hosts, vi r.2.p.Op, vi r.2.p.F, vh r.2.p.N, ax r.2.p.Kids, ar r.2.state, .loc 2 0 r.2.found.length]), (2, .lst false none (List.map (eL (some 8) (eA8 (D.int .u16))) r.2.found))]) 3
 | 0, _, _, _, _, h => by cases h
 | k + 1, _, _, _, _, h => Ag (sO k) h
theorem Ah {a0 : cz} {a1 : (List (A8 Int))} {a2 : (A8 Int)} {r : (Int × cz)} (h : nK a0 a1 a2 = some r) : bY Try.prog 68 [.ptr 0 0 0, .d (eL (some 8) (eA8 (D.int .u16)) a1), .d (eA8 (D.int .u16) a2)] (ac [(0, .var [ar a0.t.Switches, ba a0.t.Links, aL a0.t.Hosts, vi a0.p.Op, vi a0.p.F, vh a0.p.N, ax a0.p.Kids, ar a0.state, .loc 1 0 a0.found.length]), (1, .lst false none (List.map (eL (some 8) (eA8 (D.int .u16))) a0.found))]) 2 (vi r.1) (ac [(0, .var [ar r.2.t.Switches, ba r.2.t.Links, aL r.2.t.Hosts, vi r.2.p.Op, vi r.2.p.F, vh r.2.p.N, ax r.2.p.Kids, ar r.2.state, .loc 2 0 r.2.found.length]), (2, .lst false none (List.map (eL (some 8) (eA8 (D.int .u16))) r.2.found))]) 3 := sO dH _ _ _ _ h
theorem sP {a0 : api_Topo} {a1 : ai} {a2 : (List Int)} {a3 : (A8 Int)} {r : ((List (List (A8 Int))) × Int)} (h : lF a0 a1 a2 a3 = some r) : PCall Try.prog 40 [eapi_Topo a0, bN a1, eL none (D.int .u16) a2, eA8 (D.int .u16) a3] (.tup [eL none (eL (some 8) (eA8 (D.int .u16))) r.1, .int .i64 r.2]) := by
 refine PCall.introN yM (show 4 ≤ 27 by decide) ?_
 refine bb (s0 := ⟨tab [(0, eG a0), (1, vs1 a1), (2, ar a2), (3, .d (eA8 (D.int .u16) a3))], ac [], 0⟩) (nr []) ?_
 refine am ⟨tab [(2, ar a2), (4, bx a0), (5, bk a1), (7, .d (.cptr (some 8) (eA8 (D.int .u16) a3) 0))], ac [], 0⟩ ?_ ?_
 ·
  iterate 5 refine q1 _ ?_
  exact nR []
 refine am ⟨tab [(7, .d (.cptr (some 8) (eA8 (D.int .u16) a3) 0)), (10, .ptr 0 0 0)], ac [(0, .var [ar a0.Switches, ba a0.Links, aL a0.Hosts, vi a1.Op, vi a1.F, vh a1.N, ax a1.Kids, ar a2, .loc 1 0 (([] : List (List (A8 Int))).length)]), (1, .lst false none (List.map (eL (some 8) (eA8 (D.int .u16))) ([] : List (List (A8 Int)))))], 2⟩ ?_ ?_
 ·
  iterate 3 refine q1 _ ?_
  refine step (v := .d (.agg [eL none (D.int .u16) a0.Switches, eL (some 4) (cX eapi_Port) a0.Links, eL (some 2) eapi_Port a0.Hosts, .int .i64 a1.Op, .int .i64 a1.F, .int .u16 a1.N, eL (some 4) aN a1.Kids, eL none (D.int .u16) a2, .nils])) (de (ds := [eL none (D.int .u16) a0.Switches, eL (some 4) (cX eapi_Port) a0.Links, eL (some 2) eapi_Port a0.Hosts, .int .i64 a1.Op, .int .i64 a1.F, .int .u16 a1.N, eL (some 4) aN a1.Kids, eL none (D.int .u16) a2, .nils]) rfl) ?_
  refine step (v := .ptr 0 0 0) (σ' := (al (ac []) 0 (some (.var [ar a0.Switches, ba a0.Links, aL a0.Hosts, vi a1.Op, vi a1.F, vh a1.N, ax a1.Kids, ar a2, .d (.nils)])))) (n' := 1) rfl ?_
  refine q1 _ ?_
  exact aZ.nil' (bO.trans (s2 := ⟨tab [(7, .d (.cptr (some 8) (eA8 (D.int .u16) a3) 0)), (10, .ptr 0 0 0)], ac [(0, .var [ar a0.Switches, ba a0.Links, aL a0.Hosts, vi a1.Op, vi a1.F, vh a1.N, ax a1.Kids, ar a2, .loc 1 0 (([] : List (List (A8 Int))).length)]), (1, .lst false none (List.map (eL (some 8) (eA8 (D.int .u16))) ([] : List (List (A8 Int)))))], 2⟩) (ve 0 8 false none rfl rfl (show 0 ≠ 1 by decide)) (nr [0, 1]))
 refine aG ?_
 obtain ⟨r1, hr1, h⟩ := ay h
 refine am ⟨tab [(10, .ptr 0 0 0), (11, vi r1.1)], ac [(0, .var [ar r1.2.t.Switches, ba r1.2.t.Links, aL r1.2.t.Hosts, vi r1.2.p.Op, vi r1.2.p.F, vh r1.2.p.N, ax r1.2.p.Kids, ar r1.2.state, .loc 1 0 r1.2.found.length]), (1, .lst false none (List.map (eL (some 8) (eA8 (D.int .u16))) r1.2.found))], 2⟩ ?_ ?_
 ·
  iterate 2 refine q1 _ ?_
  refine gF (v := vi r1.1) (σ' := (al (al (al (al (ac [(0, .var [ar a0.Switches, ba a0.Links, aL a0.Hosts, vi a1.Op, vi a1.F, vh a1.N, ax a1.Kids, ar a2, .loc 1 0 (([] : List (List (A8 Int))).length)]), (1, .lst false none (List.map (eL (some 8) (eA8 (D.int .u16))) ([] : List (List (A8 Int)))))]) 1 none) 0 none) 2 (some (.lst false none (List.map (eL (some 8) (eA8 (D.int .u16))) r1.2.found)))) 0 (some (.var [ar r1.2.t.Switches, ba r1.2.t.Links, aL r1.2.t.Hosts, vi r1.2.p.Op, vi r1.2.p.F, vh r1.2.p.N, ax r1.2.p.Kids, ar r1.2.state, .loc 2 0 r1.2.found.length])))) (n' := 3) (gG [0, 1] (Ah hr1) (show 2 ≤ 3 by decide) (by decide) (show ∀ i ∈ [0, 1], i < 2 by decide) (d8 (show 0 < 3 by decide) (d8 (show 2 < 3 by decide) fz)) (bo.c (.pt 0) (bo.c .nl (bo.c (.d _) bo.nil0))) (SN.c (show 0 < 2 by decide) rfl (.vars (bo.c (.d _) (bo.c (.d _) (bo.c (.d _) (bo.c (.d _) (bo.c (.d _) (bo.c (.d _) (bo.c (.d _) (bo.c (.d _) (bo.c (.lc 1) bo.nil0)))))))))) (SN.c (show 1 < 2 by decide) rfl (.lst _ _ _) SN.nil0))) (show 2 ≤ 3 by decide) ?_
  refine q1 _ ?_
  exact nR [0, 2]
 refine am ⟨tab [(10, .ptr 0 0 0), (11, vi r1.1), (21, vb (r1.1 != 0))], ac [(0, .var [ar r1.2.t.Switches, ba r1.2.t.Links, aL r1.2.t.Hosts, vi r1.2.p.Op, vi r1.2.p.F, vh r1.2.p.N, ax r1.2.p.Kids, ar r1.2.state, .loc 1 0 r1.2.found.length]), (1, .lst false none (List.map (eL (some 8) (eA8 (D.int .u16))) r1.2.found))], 2⟩ ?_ ?_
 ·
  iterate 2 refine q1 _ ?_
  exact nR [0, 1]
 by_cases hc2 : (r1.1 != 0) = true
 ·
  replace h := aO hc2 h
  refine aY (t := (r1.1 != 0)) rfl hc2 ?_
  refine am ⟨tab [(8, .d (eL none (eL (some 8) (eA8 (D.int .u16))) ([] : List (List (A8 Int))))), (9, vi r1.1)], ac [], 0⟩ ?_ ?_
  ·
   iterate 3 refine q1 _ ?_
   exact nR []
  have hh := aq h
  subst hh
  refine aV ?_
  show FQ _ _ _ _
  exact eE (.inr rfl) (bg (v := .d (eL none (eL (some 8) (eA8 (D.int .u16))) ([] : List (List (A8 Int))))) rfl (bg (v := vi r1.1) rfl rfl)) (RV.d (RV.d trivial))
 ·
  replace h := aP hc2 h
  refine aW (t := (r1.1 != 0)) rfl hc2 ?_
  refine bh ?_
  refine am ⟨tab [(8, .loc 0 0 r1.2.found.length), (9, vi 0)], ac [(0, .lst false none (List.map (eL (some 8) (eA8 (D.int .u16))) r1.2.found))], 1⟩ ?_ ?_
  ·
   iterate 6 refine q1 _ ?_
   exact nR [1]
  have hh := aq h
  subst hh
  refine aV ?_
  show FQ _ _ _ _
  exact eE (.inr rfl) (bg (v := .loc 0 0 r1.2.found.length) rfl (bg (v := vi 0) rfl rfl)) (RV.loc (xs := r1.2.found) (e := (eL (some 8) (eA8 (D.int .u16)))) rfl rfl (RV.d trivial))
theorem Ai {a0 : (List (A8 Int))} {a1 : (A8 Int)} {r : Int} (h : nM a0 a1 = some r) : PCall Try.prog 95 [eL (some 8) (eA8 (D.int .u16)) a0, eA8 (D.int .u16) a1] (.int .i64 r) := by
 refine PCall.introN yP (show 2 ≤ 19 by decide) ?_
 refine bb (s0 := ⟨tab [(0, .d (eL (some 8) (eA8 (D.int .u16)) a0)), (1, .d (eA8 (D.int .u16) a1))], ac [], 0⟩) (nr []) ?_
 refine am ⟨tab [(0, .d (eL (some 8) (eA8 (D.int .u16)) a0)), (3, .d (.cptr (some 8) (eA8 (D.int .u16) a1) 0))], ac [], 0⟩ ?_ ?_
 ·
  iterate 2 refine q1 _ ?_
  exact nR []
 refine aG ?_
 refine am ⟨tab [(0, .d (eL (some 8) (eA8 (D.int .u16)) a0)), (3, .d (.cptr (some 8) (eA8 (D.int .u16) a1) 0)), (7, vi (a0.length : Int)), (8, vi 0)], ac [], 0⟩ ?_ ?_
 ·
  refine q1 _ ?_
  refine step (v := vi (a0.length : Int)) (bF (xs := a0) (e := (eA8 (D.int .u16))) rfl) ?_
  refine q1 _ ?_
  exact nR []
 obtain ⟨q9, hl, h⟩ := ay h
 refine bG ?_
 refine dp (cQ (a0.length : Int)) (fun (i1 : Int) (qq : Unit) => ⟨tab [(0, .d (eL (some 8) (eA8 (D.int .u16)) a0)), (3, .d (.cptr (some 8) (eA8 (D.int .u16) a1) 0)), (7, vi (a0.length : Int)), (8, vi i1)], ac [], 0⟩) 0 (fun (qq : Unit) => ⟨tab [], ac [], 0⟩) bK cR (r := r) hl (by unfold bK; omega) ?_ ?_ ?_ ?_
 ·
  rintro i1 ⟨⟩ xr6 hinv4 hgo3 h
  show aI _ _ _ _ _ ⟨tab [(0, .d (eL (some 8) (eA8 (D.int .u16)) a0)), (3, .d (.cptr (some 8) (eA8 (D.int .u16) a1) 0)), (7, vi (a0.length : Int)), (8, vi i1)], ac [], 0⟩
  have hc5 : decide (i1 < (a0.length : Int)) = true := decide_eq_true hgo3
  refine am ⟨tab [(0, .d (eL (some 8) (eA8 (D.int .u16)) a0)), (3, .d (.cptr (some 8) (eA8 (D.int .u16) a1) 0)), (7, vi (a0.length : Int)), (8, vi i1), (9, vb (decide (i1 < (a0.length : Int))))], ac [], 0⟩ ?_ ?_
  ·
   refine q1 _ ?_
   exact nR []
  refine c8 7 rfl fun hB2 => ?_
  refine aG ?_
  refine aY (t := decide (i1 < (a0.length : Int))) rfl hc5 ?_
  refine bh ?_
  refine aG ?_
  refine bG ?_
  refine am ⟨tab [(0, .d (eL (some 8) (eA8 (D.int .u16)) a0)), (3, .d (.cptr (some 8) (eA8 (D.int .u16) a1) 0)), (5, vi i1), (7, vi (a0.length : Int)), (8, vi i1)], ac [], 0⟩ ?_ ?_
  ·
   iterate 2 refine q1 _ ?_
   exact nR []
  obtain ⟨x7, hx7, h⟩ := ay h
  refine am ⟨tab [(0, .d (eL (some 8) (eA8 (D.int .u16)) a0)), (3, .d (.cptr (some 8) (eA8 (D.int .u16) a1) 0)), (5, vi i1), (7, vi (a0.length : Int)), (8, vi i1), (16, vb (a1 == x7))], ac [], 0⟩ ?_ ?_
  ·
   iterate 3 refine q1 _ ?_
   refine step (v := .d (.cptr (some 8) (eA8 (D.int .u16) x7) 0)) (cl (xs := a0) (e := (eA8 (D.int .u16))) hx7 rfl rfl) ?_
   refine q1 _ ?_
   refine step (v := vb (a1 == x7)) (f4 (neg := false) rfl rfl (ju a1 x7)) ?_
   exact nR []
  by_cases hc8 : (a1 == x7) = true
  ·
   replace h := aO hc8 h
   refine aY (t := (a1 == x7)) rfl hc8 ?_
   refine am ⟨tab [(4, vi i1)], ac [], 0⟩ ?_ ?_
   ·
    iterate 2 refine q1 _ ?_
    exact nR []
   obtain ⟨r9, kr9, hr⟩ := cq (o := some i1) (g := Br.ret) h
   subst hr
   have h := kr9
   have hh := aq h
   subst hh
   refine aV ?_
   refine And.intro (fun hn => nomatch hn) ?_
   intro hq
   have hq := hq.symm
   subst hq
   show FQ _ _ _ _
   exact br (.inr rfl) (bg (v := vi i1) rfl rfl) (RV.d trivial)
  ·
   replace h := aP hc8 h
   refine aW (t := (a1 == x7)) rfl hc8 ?_
   refine bh ?_
   have hh := aq h
   subst hh
   refine bU ⟨tab [(0, .d (eL (some 8) (eA8 (D.int .u16)) a0)), (3, .d (.cptr (some 8) (eA8 (D.int .u16) a1) 0)), (7, vi (a0.length : Int)), (8, vi (i1 + 1))], ac [], 0⟩ ?_ ?_
   ·
    refine step (v := vi (i1 + 1)) (cL (cM hinv4 hgo3 hB2) rfl rfl) ?_
    refine q1 _ ?_
    exact nR []
   exact And.intro rfl rfl
 ·
  rintro i1 ⟨⟩ hinv4 hgo3
  show aI _ _ _ _ _ ⟨tab [(0, .d (eL (some 8) (eA8 (D.int .u16)) a0)), (3, .d (.cptr (some 8) (eA8 (D.int .u16) a1) 0)), (7, vi (a0.length : Int)), (8, vi i1)], ac [], 0⟩
  have hc5 : ¬ (decide (i1 < (a0.length : Int)) = true) := fun hq => hgo3 (of_decide_eq_true hq)
  refine am ⟨tab [(0, .d (eL (some 8) (eA8 (D.int .u16)) a0)), (3, .d (.cptr (some 8) (eA8 (D.int .u16) a1) 0)), (7, vi (a0.length : Int)), (8, vi i1), (9, vb (decide (i1 < (a0.length : Int))))], ac [], 0⟩ ?_ ?_
  ·
   refine q1 _ ?_
   exact nR []
  refine aG ?_
  refine aW (t := decide (i1 < (a0.length : Int))) rfl hc5 ?_
  refine bb (s0 := ⟨tab [], ac [], 0⟩) (nr []) ?_
  refine cI ?_
  exact And.intro rfl rfl
 ·
  intro r' hq
  subst hq
  exact aq h
 rintro ⟨⟩ rfl
 refine am ⟨tab [(4, vi (-1))], ac [], 0⟩ ?_ ?_
 ·
  refine q1 _ ?_
  exact nR []
 have hh := aq h
 subst hh
 refine aV ?_
 show FQ _ _ _ _
 exact br (.inr rfl) (bg (v := vi (-1)) rfl rfl) (RV.d trivial)
theorem Aj {a0 : (List (A8 Int))} {a1 : (A8 Int)} {r : Bool} (h : lG a0 a1 = some r) : PCall Try.prog 70 [eL (some 8) (eA8 (D.int .u16)) a0, eA8 (D.int .u16) a1] (.bool r) := by
 refine PCall.introN yQ (show 2 ≤ 9 by decide) ?_
 refine bb (s0 := ⟨tab [(0, .d (eL (some 8) (eA8 (D.int .u16)) a0)), (1, .d (eA8 (D.int .u16) a1))], ac [], 0⟩) (nr []) ?_
 refine am ⟨tab [(0, .d (eL (some 8) (eA8 (D.int .u16)) a0)), (3, .d (.cptr (some 8) (eA8 (D.int .u16) a1) 0))], ac [], 0⟩ ?_ ?_
 ·
  iterate 2 refine q1 _ ?_
  exact nR []
 obtain ⟨r1, hr1, h⟩ := ay h
 refine am ⟨tab [(4, vb (decide (r1 ≥ 0)))], ac [], 0⟩ ?_ ?_
 ·
  iterate 2 refine q1 _ ?_
  refine bC (r := .int .i64 r1) (aF (aF aQ.nil')) (Ai hr1) ?_
  iterate 2 refine q1 _ ?_
  exact nR []
 have hh := aq h
 subst hh
 refine aV ?_
 show FQ _ _ _ _
 exact br (.inr rfl) (bg (v := vb (decide (r1 ≥ 0))) rfl rfl) (RV.d trivial)
theorem oK {a0 : api_Topo} {a1 : ai} {a2 : (List Int)} {a3 : (List (A8 Int))} {r : Bool} (h : je a0 a1 a2 a3 = some r) : PCall Try.prog 43 [eapi_Topo a0, bN a1, eL none (D.int .u16) a2, eL (some 8) (eA8 (D.int .u16)) a3] (.bool r) := by
 refine PCall.introN yT (show 4 ≤ 69 by decide) ?_
 refine bb (s0 := ⟨tab [(0, eG a0), (1, vs1 a1), (2, ar a2), (3, .d (eL (some 8) (eA8 (D.int .u16)) a3))], ac [], 0⟩) (nr []) ?_
 refine am ⟨tab [(2, ar a2), (3, .d (eL (some 8) (eA8 (D.int .u16)) a3)), (4, bx a0), (5, bk a1)], ac [], 0⟩ ?_ ?_
 ·
  iterate 3 refine q1 _ ?_
  exact nR []
 refine aG ?_
 refine am ⟨tab [(2, ar a2), (3, .d (eL (some 8) (eA8 (D.int .u16)) a3)), (4, bx a0), (5, bk a1), (9, vi 1)], ac [], 0⟩ ?_ ?_
 ·
  refine q1 _ ?_
  exact nR []
 obtain ⟨q22, hl, h⟩ := ay h
 refine bG ?_
 refine dp (cQ (a3.length : Int)) (fun (i1 : Int) (qq : Unit) => ⟨tab [(2, ar a2), (3, .d (eL (some 8) (eA8 (D.int .u16)) a3)), (4, bx a0), (5, bk a1), (9, vi i1)], ac [], 0⟩) 0 (fun (qq : Unit) => ⟨tab [(3, .d (eL (some 8) (eA8 (D.int .u16)) a3))], ac [], 0⟩) bK cR (r := r) hl (by unfold bK; omega) ?_ ?_ ?_ ?_
 ·
  rintro i1 ⟨⟩ xr6 hinv4 hgo3 h
  show aI _ _ _ _ _ ⟨tab [(2, ar a2), (3, .d (eL (some 8) (eA8 (D.int .u16)) a3)), (4, bx a0), (5, bk a1), (9, vi i1)], ac [], 0⟩
  have hc5 : decide (i1 < (a3.length : Int)) = true := decide_eq_true hgo3
  refine aG ?_
  refine am ⟨tab [(2, ar a2), (3, .d (eL (some 8) (eA8 (D.int .u16)) a3)), (4, bx a0), (5, bk a1), (9, vi i1), (16, vi (a3.length : Int)), (17, vb (decide (i1 < (a3.length : Int))))], ac [], 0⟩ ?_ ?_
  ·
   iterate 2 refine q1 _ ?_
   refine step (v := vi (a3.length : Int)) (bF (xs := a3) (e := (eA8 (D.int .u16))) rfl) ?_
   refine q1 _ ?_
   exact nR []
  refine c8 16 rfl fun hB2 => ?_
  refine aY (t := decide (i1 < (a3.length : Int))) rfl hc5 ?_
  refine bh ?_
  obtain ⟨q20, hv, h⟩ := ay h
  refine mW (fun (qq : Unit) => ⟨tab [(2, ar a2), (3, .d (eL (some 8) (eA8 (D.int .u16)) a3)), (4, bx a0), (5, bk a1), (9, vi i1)], ac [], 0⟩) (xv := q20) (r := xr6) ?_ ?_ ?_
  ·
   replace h := hv
   refine bG ?_
   refine aG ?_
   refine am ⟨tab [(2, ar a2), (3, .d (eL (some 8) (eA8 (D.int .u16)) a3)), (4, bx a0), (5, bk a1), (9, vi i1), (22, vb ((i1.tmod 2) == 0))], ac [], 0⟩ ?_ ?_
   ·
    iterate 3 refine q1 _ ?_
    exact nR []
   by_cases hc7 : ((i1.tmod 2) == 0) = true
   ·
    replace h := aO hc7 h
    refine aY (t := ((i1.tmod 2) == 0)) rfl hc7 ?_
    refine aG ?_
    obtain ⟨x8, hx8, h⟩ := ay h
    obtain ⟨r9, hr9, h⟩ := ay h
    refine am ⟨tab [(2, ar a2), (3, .d (eL (some 8) (eA8 (D.int .u16)) a3)), (4, bx a0), (5, bk a1), (9, vi i1), (10, .ptr 0 0 0), (11, vi r9.2)], ac [(0, .var [vh r9.1.a0, vh r9.1.a1, vh r9.1.a2, vh r9.1.a3, vh r9.1.a4, vh r9.1.a5, vh r9.1.a6, vh r9.1.a7])], 1⟩ ?_ ?_
    ·
     iterate 4 refine q1 _ ?_
     refine step (v := .d (.cptr (some 8) (eA8 (D.int .u16) x8) 0)) (cl (xs := a3) (e := (eA8 (D.int .u16))) hx8 rfl rfl) ?_
     refine q1 _ ?_
     refine bC (r := .tup [eA8 (D.int .u16) r9.1, .int .i64 r9.2]) (aF (aF aQ.nil')) (oJ hr9) ?_
     iterate 3 refine q1 _ ?_
     refine step (v := .ptr 0 0 0) (σ' := (al (ac []) 0 (some (ce)))) (n' := 1) rfl ?_
     refine step (v := V.undef) (σ' := (al (al (ac []) 0 (some (ce))) 0 (some (.var [vh r9.1.a0, vh r9.1.a1, vh r9.1.a2, vh r9.1.a3, vh r9.1.a4, vh r9.1.a5, vh r9.1.a6, vh r9.1.a7])))) (n' := 1) rfl ?_
     refine q1 _ ?_
     exact nR [0]
    obtain ⟨y12, hv, h⟩ := ay h
    refine am ⟨tab [(2, ar a2), (3, .d (eL (some 8) (eA8 (D.int .u16)) a3)), (4, bx a0), (5, bk a1), (9, vi i1), (42, vb y12)], ac [], 0⟩ ?_ ?_
    ·
     iterate 3 refine q1 _ ?_
     by_cases hg10 : (r9.2 != 0) = true
     ·
      replace hv := aO hg10 hv
      iterate 6 refine qX (r9.2 != 0) (by rw [hg10]; decide) ?_
      refine step (v := vb true) (bw (b := (r9.2 != 0)) rfl hg10 rfl) ?_
      have hh := aq hv
      subst hh
      exact nR []
     ·
      replace hv := aP hg10 hv
      obtain ⟨x11, hx11, hv⟩ := ay hv
      refine qG (r9.2 != 0) (Bool.eq_false_iff.2 hg10) ?_
      refine step (v := .d (eA8 (D.int .u16) r9.1)) (cb (ds := [.int .u16 r9.1.a0, .int .u16 r9.1.a1, .int .u16 r9.1.a2, .int .u16 r9.1.a3, .int .u16 r9.1.a4, .int .u16 r9.1.a5, .int .u16 r9.1.a6, .int .u16 r9.1.a7]) rfl rfl (show 8 ≤ 8 by decide) rfl) ?_
      refine qG (r9.2 != 0) (Bool.eq_false_iff.2 hg10) ?_
      refine q1 _ ?_
      refine qG (r9.2 != 0) (Bool.eq_false_iff.2 hg10) ?_
      refine q1 _ ?_
      refine qG (r9.2 != 0) (Bool.eq_false_iff.2 hg10) ?_
      refine step (v := .d (.cptr (some 8) (eA8 (D.int .u16) x11) 0)) (cl (xs := a3) (e := (eA8 (D.int .u16))) hx11 rfl rfl) ?_
      refine qG (r9.2 != 0) (Bool.eq_false_iff.2 hg10) ?_
      refine q1 _ ?_
      refine qG (r9.2 != 0) (Bool.eq_false_iff.2 hg10) ?_
      refine step (v := vb (!(r9.1 == x11))) (f4 (neg := true) rfl rfl (ju r9.1 x11)) ?_
      refine step (v := vb (!(r9.1 == x11))) (bp (b := (r9.2 != 0)) rfl hg10 rfl) ?_
      have hh := aq hv
      subst hh
      exact nR []
    by_cases hc14 : y12 = true
    ·
     replace h := aO hc14 h
     refine aY (t := y12) rfl hc14 ?_
     refine am ⟨tab [(8, vb false)], ac [], 0⟩ ?_ ?_
     ·
      refine q1 _ ?_
      exact nR []
     obtain ⟨r15, kr15, hr⟩ := cq (o := some (Br.ret false)) (g := Sum.inr) h
     subst hr
     have h := kr15
     obtain ⟨r16, kr16, hr⟩ := cq (o := some false) (g := Br.ret) h
     subst hr
     have h := kr16
     have hh := aq h
     subst hh
     refine aV ?_
     refine And.intro (fun hn => nomatch hn) ?_
     intro hq
     have hq := hq.symm
     subst hq
     refine And.intro (fun hn => nomatch hn) ?_
     intro hq
     have hq := hq.symm
     subst hq
     show FQ _ _ _ _
     exact br (.inr rfl) (bg (v := vb false) rfl rfl) (RV.d trivial)
    ·
     replace h := aP hc14 h
     refine aW (t := y12) rfl hc14 ?_
     refine bh ?_
     have hh := aq h
     subst hh
     refine bb (s0 := ⟨tab [(2, ar a2), (3, .d (eL (some 8) (eA8 (D.int .u16)) a3)), (4, bx a0), (5, bk a1), (9, vi i1)], ac [], 0⟩) (nr []) ?_
     refine cI ?_
     exact And.intro rfl rfl
   ·
    replace h := aP hc7 h
    refine aW (t := ((i1.tmod 2) == 0)) rfl hc7 ?_
    refine bh ?_
    obtain ⟨x15, hx15, h⟩ := ay h
    obtain ⟨r16, hr16, h⟩ := ay h
    refine am ⟨tab [(2, ar a2), (3, .d (eL (some 8) (eA8 (D.int .u16)) a3)), (4, bx a0), (5, bk a1), (9, vi i1), (12, .d (eL (some 8) (eA8 (D.int .u16)) r16.1))], ac [], 0⟩ ?_ ?_
    ·
     iterate 5 refine q1 _ ?_
     refine step (v := .d (.cptr (some 8) (eA8 (D.int .u16) x15) 0)) (cl (xs := a3) (e := (eA8 (D.int .u16))) hx15 rfl rfl) ?_
     refine q1 _ ?_
     refine bC (r := .tup [eL (some 8) (eA8 (D.int .u16)) r16.1, .int .i64 r16.2]) (aF (aF (aF aQ.nil'))) (mc hr16) ?_
     iterate 5 refine q1 _ ?_
     exact nR []
    obtain ⟨x17, hx17, h⟩ := ay h
    obtain ⟨r18, hr18, h⟩ := ay h
    refine am ⟨tab [(2, ar a2), (3, .d (eL (some 8) (eA8 (D.int .u16)) a3)), (4, bx a0), (5, bk a1), (9, vi i1), (60, vb (!r18))], ac [], 0⟩ ?_ ?_
    ·
     iterate 3 refine q1 _ ?_
     refine step (v := .d (.cptr (some 8) (eA8 (D.int .u16) x17) 0)) (cl (xs := a3) (e := (eA8 (D.int .u16))) hx17 rfl rfl) ?_
     refine q1 _ ?_
     refine bC (r := .bool r18) (aF (aF aQ.nil')) (Aj hr18) ?_
     refine q1 _ ?_
     exact nR []
    by_cases hc19 : (!r18) = true
    ·
     replace h := aO hc19 h
     refine aY (t := (!r18)) rfl hc19 ?_
     refine am ⟨tab [(8, vb false)], ac [], 0⟩ ?_ ?_
     ·
      refine q1 _ ?_
      exact nR []
     obtain ⟨r20, kr20, hr⟩ := cq (o := some (Br.ret false)) (g := Sum.inr) h
     subst hr
     have h := kr20
     obtain ⟨r21, kr21, hr⟩ := cq (o := some false) (g := Br.ret) h
     subst hr
     have h := kr21
     have hh := aq h
     subst hh
     refine aV ?_
     refine And.intro (fun hn => nomatch hn) ?_
     intro hq
     have hq := hq.symm
     subst hq
     refine And.intro (fun hn => nomatch hn) ?_
     intro hq
     have hq := hq.symm
     subst hq
     show FQ _ _ _ _
     exact br (.inr rfl) (bg (v := vb false) rfl rfl) (RV.d trivial)
    ·
     replace h := aP hc19 h
     refine aW (t := (!r18)) rfl hc19 ?_
     have hh := aq h
     subst hh
     refine bb (s0 := ⟨tab [(2, ar a2), (3, .d (eL (some 8) (eA8 (D.int .u16)) a3)), (4, bx a0), (5, bk a1), (9, vi i1)], ac [], 0⟩) (nr []) ?_
     refine bh ?_
     exact And.intro rfl rfl
  ·
   intro r' hq
   subst hq
   exact aq h
  rintro ⟨⟩ rfl
  show aI _ _ _ _ _ ⟨tab [(2, ar a2), (3, .d (eL (some 8) (eA8 (D.int .u16)) a3)), (4, bx a0), (5, bk a1), (9, vi i1)], ac [], 0⟩
  have hh := aq h
  subst hh
  refine bU ⟨tab [(2, ar a2), (3, .d (eL (some 8) (eA8 (D.int .u16)) a3)), (4, bx a0), (5, bk a1), (9, vi (i1 + 1))], ac [], 0⟩ ?_ ?_
  ·
   refine q1 _ ?_
   refine step (v := vi (i1 + 1)) (cL (cM hinv4 hgo3 hB2) rfl rfl) ?_
   refine q1 _ ?_
   exact nR []
  exact And.intro rfl rfl
 ·
  rintro i1 ⟨⟩ hinv4 hgo3
  show aI _ _ _ _ _ ⟨tab [(2, ar a2), (3, .d (eL (some 8) (eA8 (D.int .u16)) a3)), (4, bx a0), (5, bk a1), (9, vi i1)], ac [], 0⟩
  have hc5 : ¬ (decide (i1 < (a3.length : Int)) = true) := fun hq => hgo3 (of_decide_eq_true hq)
  refine aG ?_
  refine am ⟨tab [(2, ar a2), (3, .d (eL (some 8) (eA8 (D.int .u16)) a3)), (4, bx a0), (5, bk a1), (9, vi i1), (17, vb (decide (i1 < (a3.length : Int))))], ac [], 0⟩ ?_ ?_
  ·
   iterate 2 refine q1 _ ?_
   refine step (v := vi (a3.length : Int)) (bF (xs := a3) (e := (eA8 (D.int .u16))) rfl) ?_
   refine q1 _ ?_
   exact nR []
  refine aW (t := decide (i1 < (a3.length : Int))) rfl hc5 ?_
  refine bb (s0 := ⟨tab [(3, .d (eL (some 8) (eA8 (D.int .u16)) a3))], ac [], 0⟩) (nr []) ?_
  refine cI ?_
  exact And.intro rfl rfl
 ·
  intro r' hq
  subst hq
  exact aq h
 rintro ⟨⟩ rfl
 refine am ⟨tab [(8, vb ((decide ((a3.length : Int) > 0)) && (decide ((a3.length : Int) ≤ 24))))], ac [], 0⟩ ?_ ?_
 ·
  refine q1 _ ?_
  refine step (v := vi (a3.length : Int)) (bF (xs := a3) (e := (eA8 (D.int .u16))) rfl) ?_
  iterate 2 refine q1 _ ?_
  by_cases hg21 : decide ((a3.length : Int) > 0) = true
  ·
   refine qG _ hg21 ?_
   refine q1 _ ?_
   refine qG _ hg21 ?_
   refine step (v := vi (a3.length : Int)) (bF (xs := a3) (e := (eA8 (D.int .u16))) rfl) ?_
   refine qG _ hg21 ?_
   refine q1 _ ?_
   refine step (v := vb (decide ((a3.length : Int) ≤ 24))) (bw (b := decide ((a3.length : Int) > 0)) rfl hg21 rfl) ?_
   refine q1 _ ?_
   exact aZ.nil' (nm [] ⟨.eq (by first | (simp [hg21]; done) | (simp_all; done) | grind), trivial⟩ trivial)
  ·
   iterate 3 refine qX _ hg21 ?_
   refine step (v := vb false) (bp (b := decide ((a3.length : Int) > 0)) rfl hg21 rfl) ?_
   refine q1 _ ?_
   exact aZ.nil' (nm [] ⟨.eq (by first | (simp [hg21]; done) | (simp_all; done) | grind), trivial⟩ trivial)
 have hh := aq h
 subst hh
 refine aV ?_
 show FQ _ _ _ _
 exact br (.inr rfl) (bg (v := vb ((decide ((a3.length : Int) > 0)) && (decide ((a3.length : Int) ≤ 24)))) rfl rfl) (RV.d trivial)
theorem oL {a0 : api_Topo} {a1 : ai} {a2 : (List Int)} {a3 : (List (A8 Int))} {r : Bool} (h : jf a0 a1 a2 a3 = some r) : PCall Try.prog 41 [eapi_Topo a0, bN a1, eL none (D.int .u16) a2, eL (some 8) (eA8 (D.int .u16)) a3] (.bool r) := by
 refine PCall.introN yV (show 4 ≤ 57 by decide) ?_
 refine bb (s0 := ⟨tab [(0, eG a0), (1, vs1 a1), (2, ar a2), (3, .d (eL (some 8) (eA8 (D.int .u16)) a3))], ac [], 0⟩) (nr []) ?_
 refine am ⟨tab [(2, ar a2), (3, .d (eL (some 8) (eA8 (D.int .u16)) a3)), (4, bx a0), (5, bk a1)], ac [], 0⟩ ?_ ?_
 ·
  iterate 3 refine q1 _ ?_
  exact nR []
 refine aG ?_
 obtain ⟨r1, hr1, h⟩ := ay h
 refine am ⟨tab [(2, ar a2), (3, .d (eL (some 8) (eA8 (D.int .u16)) a3)), (4, bx a0), (5, bk a1), (19, vb (!r1))], ac [], 0⟩ ?_ ?_
 ·
  iterate 4 refine q1 _ ?_
  refine bC (r := .bool r1) (aF (aF (aF (aF aQ.nil')))) (oK hr1) ?_
  refine q1 _ ?_
  exact nR []
 by_cases hc2 : (!r1) = true
 ·
  replace h := aO hc2 h
  refine aY (t := (!r1)) rfl hc2 ?_
  refine am ⟨tab [(8, vb false)], ac [], 0⟩ ?_ ?_
  ·
   refine q1 _ ?_
   exact nR []
  have hh := aq h
  subst hh
  refine aV ?_
  show FQ _ _ _ _
  exact br (.inr rfl) (bg (v := vb false) rfl rfl) (RV.d trivial)
 ·
  replace h := aP hc2 h
  refine aW (t := (!r1)) rfl hc2 ?_
  refine bh ?_
  obtain ⟨x3, hx3, h⟩ := ay h
  refine am ⟨tab [(2, ar a2), (3, .d (eL (some 8) (eA8 (D.int .u16)) a3)), (4, bx a0), (5, bk a1), (9, .ptr 0 0 0)], ac [(0, .var [vh x3.a0, vh x3.a1, vh x3.a2, vh x3.a3, vh x3.a4, vh x3.a5, vh x3.a6, vh x3.a7])], 1⟩ ?_ ?_
  ·
   iterate 2 refine q1 _ ?_
   refine step (v := vi (a3.length : Int)) (bF (xs := a3) (e := (eA8 (D.int .u16))) rfl) ?_
   refine q1 _ ?_
   refine step (v := .d (.cptr (some 8) (eA8 (D.int .u16) x3) 0)) (cl (xs := a3) (e := (eA8 (D.int .u16))) hx3 rfl rfl) ?_
   refine q1 _ ?_
   refine step (v := .ptr 0 0 0) (σ' := (al (ac []) 0 (some (ce)))) (n' := 1) rfl ?_
   refine step (v := V.undef) (σ' := (al (al (ac []) 0 (some (ce))) 0 (some (.var [vh x3.a0, vh x3.a1, vh x3.a2, vh x3.a3, vh x3.a4, vh x3.a5, vh x3.a6, vh x3.a7])))) (n' := 1) rfl ?_
   exact nR [0]
  refine aG ?_
  refine am ⟨tab [(2, ar a2), (3, .d (eL (some 8) (eA8 (D.int .u16)) a3)), (4, bx a0), (5, bk a1), (9, .ptr 0 0 0), (29, vb (((a3.length : Int).tmod 2) == 1))], ac [(0, .var [vh x3.a0, vh x3.a1, vh x3.a2, vh x3.a3, vh x3.a4, vh x3.a5, vh x3.a6, vh x3.a7])], 1⟩ ?_ ?_
  ·
   refine q1 _ ?_
   refine step (v := vi (a3.length : Int)) (bF (xs := a3) (e := (eA8 (D.int .u16))) rfl) ?_
   iterate 2 refine q1 _ ?_
   exact nR [0]
  by_cases hc4 : (((a3.length : Int).tmod 2) == 1) = true
  ·
   replace h := aO hc4 h
   refine aY (t := (((a3.length : Int).tmod 2) == 1)) rfl hc4 ?_
   obtain ⟨r5, hr5, h⟩ := ay h
   refine am ⟨tab [(10, .d (eL (some 8) (eA8 (D.int .u16)) r5.1)), (11, vi r5.2)], ac [], 0⟩ ?_ ?_
   ·
    iterate 2 refine q1 _ ?_
    refine step (v := .d (eA8 (D.int .u16) x3)) (cb (ds := [.int .u16 x3.a0, .int .u16 x3.a1, .int .u16 x3.a2, .int .u16 x3.a3, .int .u16 x3.a4, .int .u16 x3.a5, .int .u16 x3.a6, .int .u16 x3.a7]) rfl rfl (show 8 ≤ 8 by decide) rfl) ?_
    refine bC (r := .tup [eL (some 8) (eA8 (D.int .u16)) r5.1, .int .i64 r5.2]) (aF (aF (aF aQ.nil'))) (mc hr5) ?_
    iterate 5 refine q1 _ ?_
    exact nR []
   refine am ⟨tab [(8, vb ((r5.2 == 0) && ((r5.1.length : Int) == 0)))], ac [], 0⟩ ?_ ?_
   ·
    iterate 3 refine q1 _ ?_
    by_cases hg6 : (r5.2 == 0) = true
    ·
     refine qG _ hg6 ?_
     refine q1 _ ?_
     refine qG _ hg6 ?_
     refine step (v := vi (r5.1.length : Int)) (bF (xs := r5.1) (e := (eA8 (D.int .u16))) rfl) ?_
     refine qG _ hg6 ?_
     refine q1 _ ?_
     refine step (v := vb ((r5.1.length : Int) == 0)) (bw (b := (r5.2 == 0)) rfl hg6 rfl) ?_
     refine q1 _ ?_
     exact aZ.nil' (nm [] ⟨.eq (by first | (simp [hg6]; done) | (simp_all; done) | grind), trivial⟩ trivial)
    ·
     iterate 3 refine qX _ hg6 ?_
     refine step (v := vb false) (bp (b := (r5.2 == 0)) rfl hg6 rfl) ?_
     refine q1 _ ?_
     exact aZ.nil' (nm [] ⟨.eq (by first | (simp [hg6]; done) | (simp_all; done) | grind), trivial⟩ trivial)
   have hh := aq h
   subst hh
   refine aV ?_
   show FQ _ _ _ _
   exact br (.inr rfl) (bg (v := vb ((r5.2 == 0) && ((r5.1.length : Int) == 0))) rfl rfl) (RV.d trivial)
  ·
   replace h := aP hc4 h
   refine aW (t := (((a3.length : Int).tmod 2) == 1)) rfl hc4 ?_
   refine bh ?_
   obtain ⟨r7, hr7, h⟩ := ay h
   refine am ⟨tab [(3, .d (eL (some 8) (eA8 (D.int .u16)) a3)), (13, vi r7.2)], ac [], 0⟩ ?_ ?_
   ·
    refine q1 _ ?_
    refine step (v := .d (eA8 (D.int .u16) x3)) (cb (ds := [.int .u16 x3.a0, .int .u16 x3.a1, .int .u16 x3.a2, .int .u16 x3.a3, .int .u16 x3.a4, .int .u16 x3.a5, .int .u16 x3.a6, .int .u16 x3.a7]) rfl rfl (show 8 ≤ 8 by decide) rfl) ?_
    refine bC (r := .tup [eA8 (D.int .u16) r7.1, .int .i64 r7.2]) (aF (aF aQ.nil')) (oJ hr7) ?_
    iterate 3 refine q1 _ ?_
    refine step (v := .ptr 1 0 0) (σ' := (al (ac [(0, .var [vh x3.a0, vh x3.a1, vh x3.a2, vh x3.a3, vh x3.a4, vh x3.a5, vh x3.a6, vh x3.a7])]) 1 (some (ce)))) (n' := 2) rfl ?_
    refine step (v := V.undef) (σ' := (al (al (ac [(0, .var [vh x3.a0, vh x3.a1, vh x3.a2, vh x3.a3, vh x3.a4, vh x3.a5, vh x3.a6, vh x3.a7])]) 1 (some (ce))) 1 (some (.var [vh r7.1.a0, vh r7.1.a1, vh r7.1.a2, vh r7.1.a3, vh r7.1.a4, vh r7.1.a5, vh r7.1.a6, vh r7.1.a7])))) (n' := 2) rfl ?_
    refine q1 _ ?_
    exact nR []
   refine am ⟨tab [(8, vb ((r7.2 != 0) || ((a3.length : Int) == 24)))], ac [], 0⟩ ?_ ?_
   ·
    iterate 3 refine q1 _ ?_
    by_cases hg8 : (r7.2 != 0) = true
    ·
     iterate 3 refine qX (r7.2 != 0) (by rw [hg8]; decide) ?_
     refine step (v := vb true) (bw (b := (r7.2 != 0)) rfl hg8 rfl) ?_
     refine q1 _ ?_
     exact aZ.nil' (nm [] ⟨.eq (by first | (simp [hg8]; done) | (simp_all; done) | grind), trivial⟩ trivial)
    ·
     refine qG (r7.2 != 0) (Bool.eq_false_iff.2 hg8) ?_
     refine q1 _ ?_
     refine qG (r7.2 != 0) (Bool.eq_false_iff.2 hg8) ?_
     refine step (v := vi (a3.length : Int)) (bF (xs := a3) (e := (eA8 (D.int .u16))) rfl) ?_
     refine qG (r7.2 != 0) (Bool.eq_false_iff.2 hg8) ?_
     refine q1 _ ?_
     refine step (v := vb ((a3.length : Int) == 24)) (bp (b := (r7.2 != 0)) rfl hg8 rfl) ?_
     refine q1 _ ?_
     exact aZ.nil' (nm [] ⟨.eq (by first | (simp [hg8]; done) | (simp_all; done) | grind), trivial⟩ trivial)
   have hh := aq h
   subst hh
   refine aV ?_
   show FQ _ _ _ _
   exact br (.inr rfl) (bg (v := vb ((r7.2 != 0) || ((a3.length : Int) == 24))) rfl rfl) (RV.d trivial)
end Go.AM
