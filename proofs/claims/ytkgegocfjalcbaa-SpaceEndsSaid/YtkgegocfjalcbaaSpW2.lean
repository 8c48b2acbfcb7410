import Derived.Test.YtkgegocfjalcbaaSpW1
/-  What they are in the program: walks. -/
set_option linter.unusedVariables false
set_option linter.unusedSimpArgs false
namespace Go.AM
open Go Go.RowKit Go.Proofs

attribute [local irreducible] RunOps RunOpsL

theorem c_ref11_Goes {a0 : api_Rule} {a1 : (List Int)} {r : Bool} (h : ref11_Goes a0 a1 = some r) : PCall Try.prog 29 [eapi_Rule a0, eL none (D.int .u16) a1] (.bool r) := by
 refine PCall.introN ok29 (show 2 ≤ 39 by decide) ?_
 refine NWp.norm (s0 := ⟨tab [(0, vs4 a0), (1, vl1 a1)], stab [], 0⟩) (nr []) ?_
 refine NWp.opsJ ⟨tab [(1, vl1 a1), (2, vp3 a0)], stab [], 0⟩ ?_ ?_
 ·
  iterate 2 refine q1 _ ?_
  exact nR []
 refine NWp.seq ?_
 refine NWp.opsJ ⟨tab [(1, vl1 a1), (2, vp3 a0), (5, vi 0)], stab [], 0⟩ ?_ ?_
 ·
  refine q1 _ ?_
  exact nR []
 obtain ⟨q14, hl, h⟩ := bindE h
 refine NWp.block ?_
 refine loop_forR (cntU (a0.Guard.length : Int)) (fun (i1 : Int) (qq : Unit) => ⟨tab [(1, vl1 a1), (2, vp3 a0), (5, vi i1)], stab [], 0⟩) 0 (fun (qq : Unit) => ⟨tab [], stab [], 0⟩) Low low_step (r := r) hl (by unfold Low; omega) ?_ ?_ ?_ ?_
 ·
  rintro i1 ⟨⟩ xr6 hinv4 hgo3 h
  show NWp _ _ _ _ _ ⟨tab [(1, vl1 a1), (2, vp3 a0), (5, vi i1)], stab [], 0⟩
  have hc5 : decide (i1 < (a0.Guard.length : Int)) = true := decide_eq_true hgo3
  refine NWp.seq ?_
  refine NWp.opsJ ⟨tab [(1, vl1 a1), (2, vp3 a0), (5, vi i1), (10, vi (a0.Guard.length : Int)), (11, vb (decide (i1 < (a0.Guard.length : Int))))], stab [], 0⟩ ?_ ?_
  ·
   iterate 3 refine q1 _ ?_
   refine step (v := vi (a0.Guard.length : Int)) (st_len (xs := a0.Guard) (e := eapi_Pair) rfl) ?_
   refine q1 _ ?_
   exact nR []
  refine NWp.rng 10 rfl fun hB2 => ?_
  refine NWp.condT (t := decide (i1 < (a0.Guard.length : Int))) rfl hc5 ?_
  refine NWp.skip ?_
  refine NWp.seq ?_
  refine NWp.block ?_
  obtain ⟨x7, hx7, h⟩ := bindE h
  refine NWp.opsJ ⟨tab [(1, vl1 a1), (2, vp3 a0), (5, vi i1), (6, .ptr 0 0 0)], stab [(0, .var [vi x7.F, vh x7.N])], 1⟩ ?_ ?_
  ·
   iterate 3 refine q1 _ ?_
   refine step (v := vp4 x7) (st_iaddr (xs := a0.Guard) (e := eapi_Pair) hx7 rfl rfl) ?_
   refine q1 _ ?_
   refine step (v := .ptr 0 0 0) (σ' := (upd (stab []) 0 (some (.var [vi 0, vh 0])))) (n' := 1) rfl ?_
   refine step (v := V.undef) (σ' := (upd (upd (stab []) 0 (some (.var [vi 0, vh 0]))) 0 (some (.var [vi x7.F, vh x7.N])))) (n' := 1) rfl ?_
   exact nR [0]
  obtain ⟨y11, hv, h⟩ := bindE h
  refine NWp.opsJ ⟨tab [(1, vl1 a1), (2, vp3 a0), (5, vi i1), (38, vb y11)], stab [], 0⟩ ?_ ?_
  ·
   iterate 4 refine q1 _ ?_
   by_cases hg8 : decide (x7.F < 0) = true
   ·
    replace hv := iteT hg8 hv
    iterate 5 refine qX (decide (x7.F < 0)) (by rw [hg8]; decide) ?_
    refine step (v := vb true) (st_pickT (b := decide (x7.F < 0)) rfl hg8 rfl) ?_
    refine q1 _ ?_
    iterate 8 refine qX true (by decide) ?_
    refine step (v := vb true) (st_pickT (b := true) rfl rfl rfl) ?_
    have hh := Option.some.inj hv
    subst hh
    exact nR []
   ·
    replace hv := iteF hg8 hv
    refine qG (decide (x7.F < 0)) (Bool.eq_false_iff.2 hg8) ?_
    refine q1 _ ?_
    refine qG (decide (x7.F < 0)) (Bool.eq_false_iff.2 hg8) ?_
    refine q1 _ ?_
    refine qG (decide (x7.F < 0)) (Bool.eq_false_iff.2 hg8) ?_
    refine q1 _ ?_
    refine qG (decide (x7.F < 0)) (Bool.eq_false_iff.2 hg8) ?_
    refine step (v := vi (a1.length : Int)) (st_len (xs := a1) (e := (D.int .u16)) rfl) ?_
    refine qG (decide (x7.F < 0)) (Bool.eq_false_iff.2 hg8) ?_
    refine q1 _ ?_
    refine step (v := vb (decide (x7.F ≥ (a1.length : Int)))) (st_pickF (b := decide (x7.F < 0)) rfl hg8 rfl) ?_
    refine q1 _ ?_
    by_cases hg9 : decide (x7.F ≥ (a1.length : Int)) = true
    ·
     replace hv := iteT hg9 hv
     iterate 8 refine qX (decide (x7.F ≥ (a1.length : Int))) (by rw [hg9]; decide) ?_
     refine step (v := vb true) (st_pickT (b := decide (x7.F ≥ (a1.length : Int))) rfl hg9 rfl) ?_
     have hh := Option.some.inj hv
     subst hh
     exact nR []
    ·
     replace hv := iteF hg9 hv
     obtain ⟨x10, hx10, hv⟩ := bindE hv
     refine qG (decide (x7.F ≥ (a1.length : Int))) (Bool.eq_false_iff.2 hg9) ?_
     refine q1 _ ?_
     refine qG (decide (x7.F ≥ (a1.length : Int))) (Bool.eq_false_iff.2 hg9) ?_
     refine q1 _ ?_
     refine qG (decide (x7.F ≥ (a1.length : Int))) (Bool.eq_false_iff.2 hg9) ?_
     refine q1 _ ?_
     refine qG (decide (x7.F ≥ (a1.length : Int))) (Bool.eq_false_iff.2 hg9) ?_
     refine step (v := .d (.cptr none (.int .u16 x10) 0)) (st_iaddr (xs := a1) (e := (D.int .u16)) hx10 rfl rfl) ?_
     refine qG (decide (x7.F ≥ (a1.length : Int))) (Bool.eq_false_iff.2 hg9) ?_
     refine q1 _ ?_
     refine qG (decide (x7.F ≥ (a1.length : Int))) (Bool.eq_false_iff.2 hg9) ?_
     refine q1 _ ?_
     refine qG (decide (x7.F ≥ (a1.length : Int))) (Bool.eq_false_iff.2 hg9) ?_
     refine q1 _ ?_
     refine qG (decide (x7.F ≥ (a1.length : Int))) (Bool.eq_false_iff.2 hg9) ?_
     refine q1 _ ?_
     refine step (v := vb (x10 != x7.N)) (st_pickF (b := decide (x7.F ≥ (a1.length : Int))) rfl hg9 rfl) ?_
     have hh := Option.some.inj hv
     subst hh
     exact nR []
  by_cases hc13 : y11 = true
  ·
   replace h := iteT hc13 h
   refine NWp.condT (t := y11) rfl hc13 ?_
   refine NWp.opsJ ⟨tab [(4, vb false)], stab [], 0⟩ ?_ ?_
   ·
    refine q1 _ ?_
    exact nR []
   obtain ⟨r14, kr14, hr⟩ := mapE (o := some false) (g := Br.ret) h
   subst hr
   have h := kr14
   have hh := Option.some.inj h
   subst hh
   refine NWp.ret ?_
   refine And.intro (fun hn => nomatch hn) ?_
   intro hq
   have hq := hq.symm
   subst hq
   show FQ _ _ _ _
   exact FQ.mk1 (.inr rfl) (res_t (v := vb false) rfl rfl) (RV.d trivial)
  ·
   replace h := iteF hc13 h
   refine NWp.condF (t := y11) rfl hc13 ?_
   refine NWp.skip ?_
   have hh := Option.some.inj h
   subst hh
   refine NWp.opsE ⟨tab [(1, vl1 a1), (2, vp3 a0), (5, vi (i1 + 1))], stab [], 0⟩ ?_ ?_
   ·
    refine q1 _ ?_
    refine step (v := vi (i1 + 1)) (st_inc (inc_ok hinv4 hgo3 hB2) rfl rfl) ?_
    refine q1 _ ?_
    exact nR []
   exact And.intro rfl rfl
 ·
  rintro i1 ⟨⟩ hinv4 hgo3
  show NWp _ _ _ _ _ ⟨tab [(1, vl1 a1), (2, vp3 a0), (5, vi i1)], stab [], 0⟩
  have hc5 : ¬ (decide (i1 < (a0.Guard.length : Int)) = true) := fun hq => hgo3 (of_decide_eq_true hq)
  refine NWp.seq ?_
  refine NWp.opsJ ⟨tab [(1, vl1 a1), (2, vp3 a0), (5, vi i1), (11, vb (decide (i1 < (a0.Guard.length : Int))))], stab [], 0⟩ ?_ ?_
  ·
   iterate 3 refine q1 _ ?_
   refine step (v := vi (a0.Guard.length : Int)) (st_len (xs := a0.Guard) (e := eapi_Pair) rfl) ?_
   refine q1 _ ?_
   exact nR []
  refine NWp.condF (t := decide (i1 < (a0.Guard.length : Int))) rfl hc5 ?_
  refine NWp.norm (s0 := ⟨tab [], stab [], 0⟩) (nr []) ?_
  refine NWp.exit ?_
  exact And.intro rfl rfl
 ·
  intro r' hq
  subst hq
  exact Option.some.inj h
 rintro ⟨⟩ rfl
 refine NWp.opsJ ⟨tab [(4, vb true)], stab [], 0⟩ ?_ ?_
 ·
  refine q1 _ ?_
  exact nR []
 have hh := Option.some.inj h
 subst hh
 refine NWp.ret ?_
 show FQ _ _ _ _
 exact FQ.mk1 (.inr rfl) (res_t (v := vb true) rfl rfl) (RV.d trivial)

theorem c_ref11_After {a0 : api_Rule} {a1 : (List Int)} {r : (List Int)} (h : ref11_After a0 a1 = some r) : PCall Try.prog 32 [eapi_Rule a0, eL none (D.int .u16) a1] (eL none (D.int .u16) r) := by
 refine PCall.introN ok32 (show 2 ≤ 40 by decide) ?_
 refine NWp.norm (s0 := ⟨tab [(0, vs4 a0), (1, vl1 a1)], stab [], 0⟩) (nr []) ?_
 refine NWp.opsJ ⟨tab [(1, vl1 a1), (2, vp3 a0)], stab [], 0⟩ ?_ ?_
 ·
  iterate 2 refine q1 _ ?_
  exact nR []
 obtain ⟨l1, hl1, h⟩ := bindE h
 refine NWp.opsJ ⟨tab [(2, vp3 a0), (5, .loc 0 0 l1.length)], stab [(0, .lst true none (List.map (D.int .u16) l1))], 1⟩ ?_ ?_
 ·
  refine step (v := .loc 0 0 (([] : List Int).length)) (σ' := (upd (stab []) 0 (some (.lst true none (List.map (D.int .u16) ([] : List Int)))))) (n' := 1) rfl ?_
  refine q1 _ ?_
  refine step (v := .loc 1 0 l1.length) (σ' := (upd (upd (upd (stab []) 0 (some (.lst true none (List.map (D.int .u16) ([] : List Int))))) 0 none) 1 (some (.lst true none (List.map (D.int .u16) l1))))) (n' := 2) (st_app (xs := ([] : List Int)) (ys := a1) (e := (D.int .u16)) hl1 rfl rfl rfl (src_v (xs := a1) (e := (D.int .u16)) rfl)) ?_
  refine q1 _ ?_
  exact nR [1]
 refine NWp.seq ?_
 refine NWp.opsJ ⟨tab [(2, vp3 a0), (5, .loc 0 0 l1.length), (6, vi 0)], stab [(0, .lst true none (List.map (D.int .u16) l1))], 1⟩ ?_ ?_
 ·
  refine q1 _ ?_
  exact nR [0]
 obtain ⟨z16, hl, h⟩ := bindE h
 refine NWp.block ?_
 refine loop_forO (cntU (a0.Then.length : Int)) (fun (i3 : Int) (qq : (List Int)) => ⟨tab [(2, vp3 a0), (5, .loc 0 0 qq.length), (6, vi i3)], stab [(0, .lst true none (List.map (D.int .u16) qq))], 1⟩) 0 (fun (qq : (List Int)) => ⟨tab [(5, .loc 0 0 qq.length)], stab [(0, .lst true none (List.map (D.int .u16) qq))], 1⟩) Low low_step hl (by unfold Low; omega) ?_ ?_ ?_
 ·
  rintro i3 l2 xr8 hinv6 hgo5 h
  show NWp _ _ _ _ _ ⟨tab [(2, vp3 a0), (5, .loc 0 0 l2.length), (6, vi i3)], stab [(0, .lst true none (List.map (D.int .u16) l2))], 1⟩
  have hc7 : decide (i3 < (a0.Then.length : Int)) = true := decide_eq_true hgo5
  refine NWp.seq ?_
  refine NWp.opsJ ⟨tab [(2, vp3 a0), (5, .loc 0 0 l2.length), (6, vi i3), (14, vi (a0.Then.length : Int)), (15, vb (decide (i3 < (a0.Then.length : Int))))], stab [(0, .lst true none (List.map (D.int .u16) l2))], 1⟩ ?_ ?_
  ·
   iterate 3 refine q1 _ ?_
   refine step (v := vi (a0.Then.length : Int)) (st_len (xs := a0.Then) (e := eapi_Pair) rfl) ?_
   refine q1 _ ?_
   exact nR [0]
  refine NWp.rng 14 rfl fun hB4 => ?_
  refine NWp.condT (t := decide (i3 < (a0.Then.length : Int))) rfl hc7 ?_
  refine NWp.skip ?_
  obtain ⟨l14, hv, h⟩ := bindE h
  refine NWp.seqN ⟨tab [(2, vp3 a0), (5, .loc 0 0 l14.length), (6, vi i3)], stab [(0, .lst true none (List.map (D.int .u16) l14))], 1⟩ ?_ ?_
  ·
   replace h := hv
   refine NWp.block ?_
   obtain ⟨x9, hx9, h⟩ := bindE h
   refine NWp.opsJ ⟨tab [(2, vp3 a0), (5, .loc 0 0 l2.length), (6, vi i3), (7, .ptr 1 0 0)], stab [(0, .lst true none (List.map (D.int .u16) l2)), (1, .var [vi x9.F, vh x9.N])], 2⟩ ?_ ?_
   ·
    iterate 3 refine q1 _ ?_
    refine step (v := vp4 x9) (st_iaddr (xs := a0.Then) (e := eapi_Pair) hx9 rfl rfl) ?_
    refine q1 _ ?_
    refine step (v := .ptr 1 0 0) (σ' := (upd (stab [(0, .lst true none (List.map (D.int .u16) l2))]) 1 (some (.var [vi 0, vh 0])))) (n' := 2) rfl ?_
    refine step (v := V.undef) (σ' := (upd (upd (stab [(0, .lst true none (List.map (D.int .u16) l2))]) 1 (some (.var [vi 0, vh 0]))) 1 (some (.var [vi x9.F, vh x9.N])))) (n' := 2) rfl ?_
    exact nR [0, 1]
   refine NWp.opsJ ⟨tab [(2, vp3 a0), (5, .loc 0 0 l2.length), (6, vi i3), (7, .ptr 1 0 0), (32, vb ((decide (x9.F ≥ 0)) && (decide (x9.F < (l2.length : Int)))))], stab [(0, .lst true none (List.map (D.int .u16) l2)), (1, .var [vi x9.F, vh x9.N])], 2⟩ ?_ ?_
   ·
    iterate 4 refine q1 _ ?_
    by_cases hg10 : decide (x9.F ≥ 0) = true
    ·
     refine qG _ hg10 ?_
     refine q1 _ ?_
     refine qG _ hg10 ?_
     refine q1 _ ?_
     refine qG _ hg10 ?_
     refine q1 _ ?_
     refine qG _ hg10 ?_
     refine q1 _ ?_
     refine qG _ hg10 ?_
     refine q1 _ ?_
     refine step (v := vb (decide (x9.F < (l2.length : Int)))) (st_pickT (b := decide (x9.F ≥ 0)) rfl hg10 rfl) ?_
     exact RunOps.nil' (nm [0, 1] ⟨.d _, .lc 0, .d _, .pt 1, .eq (by first | (simp [hg10]; done) | (simp_all; done) | grind), trivial⟩ ⟨⟨show 0 < 2 by decide, _, rfl, .lst _ _ _⟩, ⟨show 1 < 2 by decide, _, rfl, .vars ⟨.d _, .d _, trivial⟩⟩, trivial⟩)
    ·
     iterate 5 refine qX _ hg10 ?_
     refine step (v := vb false) (st_pickF (b := decide (x9.F ≥ 0)) rfl hg10 rfl) ?_
     exact RunOps.nil' (nm [0, 1] ⟨.d _, .lc 0, .d _, .pt 1, .eq (by first | (simp [hg10]; done) | (simp_all; done) | grind), trivial⟩ ⟨⟨show 0 < 2 by decide, _, rfl, .lst _ _ _⟩, ⟨show 1 < 2 by decide, _, rfl, .vars ⟨.d _, .d _, trivial⟩⟩, trivial⟩)
   by_cases hc11 : ((decide (x9.F ≥ 0)) && (decide (x9.F < (l2.length : Int)))) = true
   ·
    replace h := iteT hc11 h
    refine NWp.condT (t := ((decide (x9.F ≥ 0)) && (decide (x9.F < (l2.length : Int))))) rfl hc11 ?_
    obtain ⟨x12, hx12, h⟩ := bindE h
    obtain ⟨l13, hl13, h⟩ := bindE h
    have hh := Option.some.inj h
    subst hh
    refine NWp.opsE ⟨tab [(2, vp3 a0), (5, .loc 0 0 l13.length), (6, vi i3)], stab [(0, .lst true none (List.map (D.int .u16) l13))], 1⟩ ?_ ?_
    ·
     iterate 5 refine q1 _ ?_
     refine step (v := .ptr 0 x9.F.toNat 0) (st_iaddrL (xs := l2) (e := (D.int .u16)) hx12 rfl rfl rfl rfl) ?_
     refine step (v := V.undef) (σ' := (upd (stab [(0, .lst true none (List.map (D.int .u16) l2)), (1, .var [vi x9.F, vh x9.N])]) 0 (some (.lst true none (List.map (D.int .u16) l13))))) (n' := 2) (st_storeL' (e := (D.int .u16)) (v' := x9.N) hl13 rfl rfl rfl rfl rfl) ?_
     exact RunOps.nil' (nm [0] ⟨.d _, .le (id := 0) (gput_len hl13).symm (show 0 < 1 by decide), .d _, trivial⟩ ⟨⟨show 0 < 1 by decide, _, rfl, .lst _ _ _⟩, trivial⟩)
    exact And.intro rfl rfl
   ·
    replace h := iteF hc11 h
    refine NWp.condF (t := ((decide (x9.F ≥ 0)) && (decide (x9.F < (l2.length : Int))))) rfl hc11 ?_
    have hh := Option.some.inj h
    subst hh
    refine NWp.norm (s0 := ⟨tab [(2, vp3 a0), (5, .loc 0 0 l2.length), (6, vi i3)], stab [(0, .lst true none (List.map (D.int .u16) l2))], 1⟩) (nr [0]) ?_
    refine NWp.skip ?_
    exact And.intro rfl rfl
  have hh := Option.some.inj h
  subst hh
  refine NWp.opsE ⟨tab [(2, vp3 a0), (5, .loc 0 0 l14.length), (6, vi (i3 + 1))], stab [(0, .lst true none (List.map (D.int .u16) l14))], 1⟩ ?_ ?_
  ·
   refine q1 _ ?_
   refine step (v := vi (i3 + 1)) (st_inc (inc_ok hinv6 hgo5 hB4) rfl rfl) ?_
   refine q1 _ ?_
   exact nR [0]
  exact And.intro rfl rfl
 ·
  rintro i3 l2 hinv6 hgo5
  show NWp _ _ _ _ _ ⟨tab [(2, vp3 a0), (5, .loc 0 0 l2.length), (6, vi i3)], stab [(0, .lst true none (List.map (D.int .u16) l2))], 1⟩
  have hc7 : ¬ (decide (i3 < (a0.Then.length : Int)) = true) := fun hq => hgo5 (of_decide_eq_true hq)
  refine NWp.seq ?_
  refine NWp.opsJ ⟨tab [(2, vp3 a0), (5, .loc 0 0 l2.length), (6, vi i3), (15, vb (decide (i3 < (a0.Then.length : Int))))], stab [(0, .lst true none (List.map (D.int .u16) l2))], 1⟩ ?_ ?_
  ·
   iterate 3 refine q1 _ ?_
   refine step (v := vi (a0.Then.length : Int)) (st_len (xs := a0.Then) (e := eapi_Pair) rfl) ?_
   refine q1 _ ?_
   exact nR [0]
  refine NWp.condF (t := decide (i3 < (a0.Then.length : Int))) rfl hc7 ?_
  refine NWp.norm (s0 := ⟨tab [(5, .loc 0 0 l2.length)], stab [(0, .lst true none (List.map (D.int .u16) l2))], 1⟩) (nr [0]) ?_
  refine NWp.exit ?_
  exact And.intro rfl rfl
 refine NWp.opsJ ⟨tab [(4, .loc 0 0 z16.length)], stab [(0, .lst true none (List.map (D.int .u16) z16))], 1⟩ ?_ ?_
 ·
  iterate 2 refine q1 _ ?_
  exact nR [0]
 have hh := Option.some.inj h
 subst hh
 refine NWp.ret ?_
 show FQ _ _ _ _
 exact FQ.mk1 (.inr rfl) (res_t (v := .loc 0 0 z16.length) rfl rfl) (RV.loc (xs := z16) (e := (D.int .u16)) rfl rfl trivial)

theorem c_ref11_Same {a0 : (List Int)} {a1 : (List Int)} {r : Bool} (h : ref11_Same a0 a1 = some r) : PCall Try.prog 30 [eL none (D.int .u16) a0, eL none (D.int .u16) a1] (.bool r) := by
 refine PCall.introN ok30 (show 2 ≤ 26 by decide) ?_
 refine NWp.norm (s0 := ⟨tab [(0, vl1 a0), (1, vl1 a1)], stab [], 0⟩) (nr []) ?_
 refine NWp.opsJ ⟨tab [(0, vl1 a0), (1, vl1 a1)], stab [], 0⟩ ?_ ?_
 ·
  refine q1 _ ?_
  exact nR []
 refine NWp.seq ?_
 refine NWp.opsJ ⟨tab [(0, vl1 a0), (1, vl1 a1), (10, vb ((a0.length : Int) != (a1.length : Int)))], stab [], 0⟩ ?_ ?_
 ·
  refine q1 _ ?_
  refine step (v := vi (a0.length : Int)) (st_len (xs := a0) (e := (D.int .u16)) rfl) ?_
  refine q1 _ ?_
  refine step (v := vi (a1.length : Int)) (st_len (xs := a1) (e := (D.int .u16)) rfl) ?_
  refine q1 _ ?_
  exact nR []
 by_cases hc1 : ((a0.length : Int) != (a1.length : Int)) = true
 ·
  replace h := iteT hc1 h
  refine NWp.condT (t := ((a0.length : Int) != (a1.length : Int))) rfl hc1 ?_
  refine NWp.opsJ ⟨tab [(4, vb false)], stab [], 0⟩ ?_ ?_
  ·
   refine q1 _ ?_
   exact nR []
  have hh := Option.some.inj h
  subst hh
  refine NWp.ret ?_
  show FQ _ _ _ _
  exact FQ.mk1 (.inr rfl) (res_t (v := vb false) rfl rfl) (RV.d trivial)
 ·
  replace h := iteF hc1 h
  refine NWp.condF (t := ((a0.length : Int) != (a1.length : Int))) rfl hc1 ?_
  refine NWp.skip ?_
  refine NWp.seq ?_
  refine NWp.opsJ ⟨tab [(0, vl1 a0), (1, vl1 a1), (5, vi 0)], stab [], 0⟩ ?_ ?_
  ·
   refine q1 _ ?_
   exact nR []
  obtain ⟨q11, hl, h⟩ := bindE h
  refine NWp.block ?_
  refine loop_forR (cntU (a0.length : Int)) (fun (i2 : Int) (qq : Unit) => ⟨tab [(0, vl1 a0), (1, vl1 a1), (5, vi i2)], stab [], 0⟩) 0 (fun (qq : Unit) => ⟨tab [], stab [], 0⟩) Low low_step (r := r) hl (by unfold Low; omega) ?_ ?_ ?_ ?_
  ·
   rintro i2 ⟨⟩ xr7 hinv5 hgo4 h
   show NWp _ _ _ _ _ ⟨tab [(0, vl1 a0), (1, vl1 a1), (5, vi i2)], stab [], 0⟩
   have hc6 : decide (i2 < (a0.length : Int)) = true := decide_eq_true hgo4
   refine NWp.seq ?_
   refine NWp.opsJ ⟨tab [(0, vl1 a0), (1, vl1 a1), (5, vi i2), (13, vi (a0.length : Int)), (14, vb (decide (i2 < (a0.length : Int))))], stab [], 0⟩ ?_ ?_
   ·
    iterate 2 refine q1 _ ?_
    refine step (v := vi (a0.length : Int)) (st_len (xs := a0) (e := (D.int .u16)) rfl) ?_
    refine q1 _ ?_
    exact nR []
   refine NWp.rng 13 rfl fun hB3 => ?_
   refine NWp.condT (t := decide (i2 < (a0.length : Int))) rfl hc6 ?_
   refine NWp.skip ?_
   refine NWp.seq ?_
   refine NWp.block ?_
   obtain ⟨x8, hx8, h⟩ := bindE h
   obtain ⟨x9, hx9, h⟩ := bindE h
   refine NWp.opsJ ⟨tab [(0, vl1 a0), (1, vl1 a1), (5, vi i2), (25, vb (x8 != x9))], stab [], 0⟩ ?_ ?_
   ·
    iterate 2 refine q1 _ ?_
    refine step (v := .d (.cptr none (.int .u16 x8) 0)) (st_iaddr (xs := a0) (e := (D.int .u16)) hx8 rfl rfl) ?_
    iterate 3 refine q1 _ ?_
    refine step (v := .d (.cptr none (.int .u16 x9) 0)) (st_iaddr (xs := a1) (e := (D.int .u16)) hx9 rfl rfl) ?_
    iterate 2 refine q1 _ ?_
    exact nR []
   by_cases hc10 : (x8 != x9) = true
   ·
    replace h := iteT hc10 h
    refine NWp.condT (t := (x8 != x9)) rfl hc10 ?_
    refine NWp.opsJ ⟨tab [(4, vb false)], stab [], 0⟩ ?_ ?_
    ·
     refine q1 _ ?_
     exact nR []
    obtain ⟨r11, kr11, hr⟩ := mapE (o := some false) (g := Br.ret) h
    subst hr
    have h := kr11
    have hh := Option.some.inj h
    subst hh
    refine NWp.ret ?_
    refine And.intro (fun hn => nomatch hn) ?_
    intro hq
    have hq := hq.symm
    subst hq
    show FQ _ _ _ _
    exact FQ.mk1 (.inr rfl) (res_t (v := vb false) rfl rfl) (RV.d trivial)
   ·
    replace h := iteF hc10 h
    refine NWp.condF (t := (x8 != x9)) rfl hc10 ?_
    refine NWp.skip ?_
    have hh := Option.some.inj h
    subst hh
    refine NWp.opsE ⟨tab [(0, vl1 a0), (1, vl1 a1), (5, vi (i2 + 1))], stab [], 0⟩ ?_ ?_
    ·
     refine q1 _ ?_
     refine step (v := vi (i2 + 1)) (st_inc (inc_ok hinv5 hgo4 hB3) rfl rfl) ?_
     refine q1 _ ?_
     exact nR []
    exact And.intro rfl rfl
  ·
   rintro i2 ⟨⟩ hinv5 hgo4
   show NWp _ _ _ _ _ ⟨tab [(0, vl1 a0), (1, vl1 a1), (5, vi i2)], stab [], 0⟩
   have hc6 : ¬ (decide (i2 < (a0.length : Int)) = true) := fun hq => hgo4 (of_decide_eq_true hq)
   refine NWp.seq ?_
   refine NWp.opsJ ⟨tab [(0, vl1 a0), (1, vl1 a1), (5, vi i2), (14, vb (decide (i2 < (a0.length : Int))))], stab [], 0⟩ ?_ ?_
   ·
    iterate 2 refine q1 _ ?_
    refine step (v := vi (a0.length : Int)) (st_len (xs := a0) (e := (D.int .u16)) rfl) ?_
    refine q1 _ ?_
    exact nR []
   refine NWp.condF (t := decide (i2 < (a0.length : Int))) rfl hc6 ?_
   refine NWp.norm (s0 := ⟨tab [], stab [], 0⟩) (nr []) ?_
   refine NWp.exit ?_
   exact And.intro rfl rfl
  ·
   intro r' hq
   subst hq
   exact Option.some.inj h
  rintro ⟨⟩ rfl
  refine NWp.opsJ ⟨tab [(4, vb true)], stab [], 0⟩ ?_ ?_
  ·
   refine q1 _ ?_
   exact nR []
  have hh := Option.some.inj h
  subst hh
  refine NWp.ret ?_
  show FQ _ _ _ _
  exact FQ.mk1 (.inr rfl) (res_t (v := vb true) rfl rfl) (RV.d trivial)

theorem c_law11_SpaceEnds {a0 : api_Program} {r : Bool} (h : law11_SpaceEnds a0 = some r) : PCall Try.prog 8 [eapi_Program a0] (.bool r) := by
 refine PCall.introN ok8 (show 1 ≤ 173 by decide) ?_
 refine NWp.norm (s0 := ⟨tab [(0, vs3 a0)], stab [], 0⟩) (nr []) ?_
 refine NWp.opsJ ⟨tab [(1, .ptr 0 0 0)], stab [(0, .var [vl1 a0.Init, vi a0.Pol.Op, vi a0.Pol.F, vh a0.Pol.N, vl3 a0.Pol.Kids, vl4 a0.Rules])], 1⟩ ?_ ?_
 ·
  refine step (v := .ptr 0 0 0) (σ' := (upd (stab []) 0 (some (.var [vl1 a0.Init, vi a0.Pol.Op, vi a0.Pol.F, vh a0.Pol.N, vl3 a0.Pol.Kids, vl4 a0.Rules])))) (n' := 1) rfl ?_
  refine q1 _ ?_
  exact nR [0]
 refine NWp.seq ?_
 obtain ⟨r1, hr1, h⟩ := bindE h
 refine NWp.opsJ ⟨tab [(1, .ptr 0 0 0), (19, vb (!r1))], stab [(0, .var [vl1 a0.Init, vi a0.Pol.Op, vi a0.Pol.F, vh a0.Pol.N, vl3 a0.Pol.Kids, vl4 a0.Rules])], 1⟩ ?_ ?_
 ·
  refine stepC (r := .bool r1) ArgsOk.nil' (c_law11_awake hr1) ?_
  refine q1 _ ?_
  exact nR [0]
 by_cases hc2 : (!r1) = true
 ·
  replace h := iteT hc2 h
  refine NWp.condT (t := (!r1)) rfl hc2 ?_
  refine NWp.opsJ ⟨tab [(2, vb false)], stab [], 0⟩ ?_ ?_
  ·
   refine q1 _ ?_
   exact nR []
  have hh := Option.some.inj h
  subst hh
  refine NWp.ret ?_
  show FQ _ _ _ _
  exact FQ.mk1 (.inr rfl) (res_t (v := vb false) rfl rfl) (RV.d trivial)
 ·
  replace h := iteF hc2 h
  refine NWp.condF (t := (!r1)) rfl hc2 ?_
  refine NWp.skip ?_
  refine NWp.opsJ ⟨tab [(1, .ptr 0 0 0)], stab [(0, .var [vl1 a0.Init, vi 0, vi 0, vh 0, vl3 [], vl4 a0.Rules])], 1⟩ ?_ ?_
  ·
   refine step (v := vs2 (api_Pol.mk 0 0 0 [])) (st_build (ds := [.int .i64 0, .int .i64 0, .int .u16 0, eL (some 4) eapi_Pol []]) rfl) ?_
   refine q1 _ ?_
   refine step (v := V.undef) (σ' := (upd (stab [(0, .var [vl1 a0.Init, vi a0.Pol.Op, vi a0.Pol.F, vh a0.Pol.N, vl3 a0.Pol.Kids, vl4 a0.Rules])]) 0 (some (.var [vl1 a0.Init, vi 0, vi 0, vh 0, vl3 [], vl4 a0.Rules])))) (n' := 1) rfl ?_
   exact nR [0]
  refine NWp.seq ?_
  obtain ⟨r3, hr3, h⟩ := bindE h
  refine NWp.opsJ ⟨tab [(1, .ptr 0 0 0), (24, vb (!r3))], stab [(0, .var [vl1 a0.Init, vi 0, vi 0, vh 0, vl3 [], vl4 a0.Rules])], 1⟩ ?_ ?_
  ·
   refine step (v := vs3 (api_Program.mk a0.Init (api_Pol.mk 0 0 0 []) a0.Rules)) (st_ldV (ds := [eL none (D.int .u16) a0.Init, .int .i64 0, .int .i64 0, .int .u16 0, eL (some 4) eapi_Pol [], eL (some 3) eapi_Rule a0.Rules]) rfl rfl (show 6 ≤ 6 by decide) rfl) ?_
   refine stepC (r := .bool r3) (ArgsOk.dt ArgsOk.nil') (c_law11_Small hr3) ?_
   refine q1 _ ?_
   exact nR [0]
  by_cases hc4 : (!r3) = true
  ·
   replace h := iteT hc4 h
   refine NWp.condT (t := (!r3)) rfl hc4 ?_
   refine NWp.opsJ ⟨tab [(2, vb true)], stab [], 0⟩ ?_ ?_
   ·
    refine q1 _ ?_
    exact nR []
   have hh := Option.some.inj h
   subst hh
   refine NWp.ret ?_
   show FQ _ _ _ _
   exact FQ.mk1 (.inr rfl) (res_t (v := vb true) rfl rfl) (RV.d trivial)
  ·
   replace h := iteF hc4 h
   refine NWp.condF (t := (!r3)) rfl hc4 ?_
   refine NWp.skip ?_
   obtain ⟨r5, hr5, h⟩ := bindE h
   refine NWp.opsJ ⟨tab [(1, .ptr 0 0 0), (3, .ptr 1 0 0), (4, vi r5.2)], stab [(0, .var [vl1 a0.Init, vi 0, vi 0, vh 0, vl3 [], vl4 a0.Rules]), (1, .var [.d (eL none (eL none (D.int .u16)) r5.1.States), vl0 r5.1.Edges])], 2⟩ ?_ ?_
   ·
    refine step (v := vs3 (api_Program.mk a0.Init (api_Pol.mk 0 0 0 []) a0.Rules)) (st_ldV (ds := [eL none (D.int .u16) a0.Init, .int .i64 0, .int .i64 0, .int .u16 0, eL (some 4) eapi_Pol [], eL (some 3) eapi_Rule a0.Rules]) rfl rfl (show 6 ≤ 6 by decide) rfl) ?_
    refine stepC (r := .tup [eapi_Space r5.1, .int .i64 r5.2]) (ArgsOk.dt ArgsOk.nil') (c_space_Explore hr5) ?_
    iterate 3 refine q1 _ ?_
    refine step (v := .ptr 1 0 0) (σ' := (upd (stab [(0, .var [vl1 a0.Init, vi 0, vi 0, vh 0, vl3 [], vl4 a0.Rules])]) 1 (some (.var [.d (eL none (eL none (D.int .u16)) []), vl0 []])))) (n' := 2) rfl ?_
    refine step (v := V.undef) (σ' := (upd (upd (stab [(0, .var [vl1 a0.Init, vi 0, vi 0, vh 0, vl3 [], vl4 a0.Rules])]) 1 (some (.var [.d (eL none (eL none (D.int .u16)) []), vl0 []]))) 1 (some (.var [.d (eL none (eL none (D.int .u16)) r5.1.States), vl0 r5.1.Edges])))) (n' := 2) rfl ?_
    refine q1 _ ?_
    exact nR [0, 1]
   refine NWp.seq ?_
   refine NWp.opsJ ⟨tab [(1, .ptr 0 0 0), (3, .ptr 1 0 0), (31, vb (r5.2 != 0))], stab [(0, .var [vl1 a0.Init, vi 0, vi 0, vh 0, vl3 [], vl4 a0.Rules]), (1, .var [.d (eL none (eL none (D.int .u16)) r5.1.States), vl0 r5.1.Edges])], 2⟩ ?_ ?_
   ·
    iterate 2 refine q1 _ ?_
    exact nR [0, 1]
   by_cases hc6 : (r5.2 != 0) = true
   ·
    replace h := iteT hc6 h
    refine NWp.condT (t := (r5.2 != 0)) rfl hc6 ?_
    refine NWp.opsJ ⟨tab [(2, vb (((r5.1.States.length : Int) == 0) && ((r5.1.Edges.length : Int) == 0)))], stab [], 0⟩ ?_ ?_
    ·
     iterate 2 refine q1 _ ?_
     refine step (v := vi (r5.1.States.length : Int)) (st_len (xs := r5.1.States) (e := (eL none (D.int .u16))) rfl) ?_
     iterate 2 refine q1 _ ?_
     by_cases hg7 : ((r5.1.States.length : Int) == 0) = true
     ·
      refine qG _ hg7 ?_
      refine q1 _ ?_
      refine qG _ hg7 ?_
      refine q1 _ ?_
      refine qG _ hg7 ?_
      refine step (v := vi (r5.1.Edges.length : Int)) (st_len (xs := r5.1.Edges) (e := eapi_Edge) rfl) ?_
      refine qG _ hg7 ?_
      refine q1 _ ?_
      refine step (v := vb ((r5.1.Edges.length : Int) == 0)) (st_pickT (b := ((r5.1.States.length : Int) == 0)) rfl hg7 rfl) ?_
      refine q1 _ ?_
      exact RunOps.nil' (nm [] ⟨.eq (by first | (simp [hg7]; done) | (simp_all; done) | grind), trivial⟩ trivial)
     ·
      iterate 4 refine qX _ hg7 ?_
      refine step (v := vb false) (st_pickF (b := ((r5.1.States.length : Int) == 0)) rfl hg7 rfl) ?_
      refine q1 _ ?_
      exact RunOps.nil' (nm [] ⟨.eq (by first | (simp [hg7]; done) | (simp_all; done) | grind), trivial⟩ trivial)
    have hh := Option.some.inj h
    subst hh
    refine NWp.ret ?_
    show FQ _ _ _ _
    exact FQ.mk1 (.inr rfl) (res_t (v := vb (((r5.1.States.length : Int) == 0) && ((r5.1.Edges.length : Int) == 0))) rfl rfl) (RV.d trivial)
   ·
    replace h := iteF hc6 h
    refine NWp.condF (t := (r5.2 != 0)) rfl hc6 ?_
    refine NWp.skip ?_
    obtain ⟨l8, hl8, h⟩ := bindE h
    refine NWp.opsJ ⟨tab [(1, .ptr 0 0 0), (3, .ptr 1 0 0), (5, .loc 2 0 l8.length)], stab [(0, .var [vl1 a0.Init, vi 0, vi 0, vh 0, vl3 [], vl4 a0.Rules]), (1, .var [.d (eL none (eL none (D.int .u16)) r5.1.States), vl0 r5.1.Edges]), (2, .lst true none (List.map D.bool l8))], 3⟩ ?_ ?_
    ·
     iterate 2 refine q1 _ ?_
     refine step (v := vi (r5.1.States.length : Int)) (st_len (xs := r5.1.States) (e := (eL none (D.int .u16))) rfl) ?_
     refine step (v := .loc 2 0 l8.length) (σ' := (upd (stab [(0, .var [vl1 a0.Init, vi 0, vi 0, vh 0, vl3 [], vl4 a0.Rules]), (1, .var [.d (eL none (eL none (D.int .u16)) r5.1.States), vl0 r5.1.Edges])]) 2 (some (.lst true none (List.map D.bool l8))))) (n' := 3) (st_mk (e := D.bool) (z := false) hl8 rfl rfl (gmk_le hl8)) ?_
     refine q1 _ ?_
     exact nR [0, 1, 2]
    refine NWp.opsJ ⟨tab [(1, .ptr 0 0 0), (3, .ptr 1 0 0), (5, .loc 2 0 l8.length), (6, vi 0)], stab [(0, .var [vl1 a0.Init, vi 0, vi 0, vh 0, vl3 [], vl4 a0.Rules]), (1, .var [.d (eL none (eL none (D.int .u16)) r5.1.States), vl0 r5.1.Edges]), (2, .lst true none (List.map D.bool l8))], 3⟩ ?_ ?_
    ·
     refine q1 _ ?_
     exact nR [0, 1, 2]
    refine NWp.opsJ ⟨tab [(1, .ptr 0 0 0), (3, .ptr 1 0 0), (5, .loc 2 0 l8.length), (6, vi 0), (7, .mref 3)], stab [(0, .var [vl1 a0.Init, vi 0, vi 0, vh 0, vl3 [], vl4 a0.Rules]), (1, .var [.d (eL none (eL none (D.int .u16)) r5.1.States), vl0 r5.1.Edges]), (2, .lst true none (List.map D.bool l8)), (3, .mp (eM (D.int .i64) D.bool ([] : List (Int × Bool))))], 4⟩ ?_ ?_
    ·
     refine step (v := .mref 3) (σ' := (upd (stab [(0, .var [vl1 a0.Init, vi 0, vi 0, vh 0, vl3 [], vl4 a0.Rules]), (1, .var [.d (eL none (eL none (D.int .u16)) r5.1.States), vl0 r5.1.Edges]), (2, .lst true none (List.map D.bool l8))]) 3 (some (.mp (eM (D.int .i64) D.bool ([] : List (Int × Bool))))))) (n' := 4) rfl ?_
     refine q1 _ ?_
     exact RunOps.nil' (nm [0, 1, 2, 3] ⟨.pt 0, .pt 1, .lc 2, .d _, .mref 3 (show 3 < 4 by decide), trivial⟩ ⟨⟨show 0 < 4 by decide, _, rfl, .vars ⟨.d _, .d _, .d _, .d _, .d _, .d _, trivial⟩⟩, ⟨show 1 < 4 by decide, _, rfl, .vars ⟨.d _, .d _, trivial⟩⟩, ⟨show 2 < 4 by decide, _, rfl, .lst _ _ _⟩, ⟨show 3 < 4 by decide, _, rfl, .mp _⟩, trivial⟩)
    refine NWp.seq ?_
    obtain ⟨r9, hr9, h⟩ := bindE h
    refine NWp.opsJ ⟨tab [(1, .ptr 0 0 0), (3, .ptr 1 0 0), (5, .loc 2 0 l8.length), (6, vi 0), (7, .mref 3), (48, vl5 r9), (49, vi (r9.length : Int)), (50, vi 0)], stab [(0, .var [vl1 a0.Init, vi 0, vi 0, vh 0, vl3 [], vl4 a0.Rules]), (1, .var [.d (eL none (eL none (D.int .u16)) r5.1.States), vl0 r5.1.Edges]), (2, .lst true none (List.map D.bool l8)), (3, .mp (eM (D.int .i64) D.bool ([] : List (Int × Bool))))], 4⟩ ?_ ?_
    ·
     refine step (v := vs1 r5.1) (st_ldV (ds := [eL none (eL none (D.int .u16)) r5.1.States, eL (some 3) eapi_Edge r5.1.Edges]) rfl rfl (show 2 ≤ 2 by decide) rfl) ?_
     refine stepC (r := eL none (D.int .i64) r9) (ArgsOk.dt ArgsOk.nil') (c_space_Ends hr9) ?_
     refine step (v := vi (r9.length : Int)) (st_len (xs := r9) (e := (D.int .i64)) rfl) ?_
     refine q1 _ ?_
     exact RunOps.nil' (nm [0, 1, 2, 3] ⟨.pt 0, .pt 1, .lc 2, .d _, .mref 3 (show 3 < 4 by decide), .d _, .d _, .d _, trivial⟩ ⟨⟨show 0 < 4 by decide, _, rfl, .vars ⟨.d _, .d _, .d _, .d _, .d _, .d _, trivial⟩⟩, ⟨show 1 < 4 by decide, _, rfl, .vars ⟨.d _, .d _, trivial⟩⟩, ⟨show 2 < 4 by decide, _, rfl, .lst _ _ _⟩, ⟨show 3 < 4 by decide, _, rfl, .mp _⟩, trivial⟩)
    obtain ⟨z18, hl, h⟩ := bindE h
    refine NWp.block ?_
    refine loop_forO (cntU (r9.length : Int)) (fun (i11 : Int) (qq : (List (Int × Bool))) => ⟨tab [(1, .ptr 0 0 0), (3, .ptr 1 0 0), (5, .loc 2 0 l8.length), (6, vi 0), (7, .mref 3), (48, vl5 r9), (49, vi (r9.length : Int)), (50, vi i11)], stab [(0, .var [vl1 a0.Init, vi 0, vi 0, vh 0, vl3 [], vl4 a0.Rules]), (1, .var [.d (eL none (eL none (D.int .u16)) r5.1.States), vl0 r5.1.Edges]), (2, .lst true none (List.map D.bool l8)), (3, .mp (eM (D.int .i64) D.bool qq))], 4⟩) 0 (fun (qq : (List (Int × Bool))) => ⟨tab [(1, .ptr 0 0 0), (3, .ptr 1 0 0), (5, .loc 2 0 l8.length), (6, vi 0), (7, .mref 3)], stab [(0, .var [vl1 a0.Init, vi 0, vi 0, vh 0, vl3 [], vl4 a0.Rules]), (1, .var [.d (eL none (eL none (D.int .u16)) r5.1.States), vl0 r5.1.Edges]), (2, .lst true none (List.map D.bool l8)), (3, .mp (eM (D.int .i64) D.bool qq))], 4⟩) Low low_step hl (by unfold Low; omega) ?_ ?_ ?_
    ·
     rintro i11 m10 xr16 hinv14 hgo13 h
     show NWp _ _ _ _ _ ⟨tab [(1, .ptr 0 0 0), (3, .ptr 1 0 0), (5, .loc 2 0 l8.length), (6, vi 0), (7, .mref 3), (48, vl5 r9), (49, vi (r9.length : Int)), (50, vi i11)], stab [(0, .var [vl1 a0.Init, vi 0, vi 0, vh 0, vl3 [], vl4 a0.Rules]), (1, .var [.d (eL none (eL none (D.int .u16)) r5.1.States), vl0 r5.1.Edges]), (2, .lst true none (List.map D.bool l8)), (3, .mp (eM (D.int .i64) D.bool m10))], 4⟩
     have hc15 : decide (i11 < (r9.length : Int)) = true := decide_eq_true hgo13
     refine NWp.opsJ ⟨tab [(1, .ptr 0 0 0), (3, .ptr 1 0 0), (5, .loc 2 0 l8.length), (6, vi 0), (7, .mref 3), (48, vl5 r9), (49, vi (r9.length : Int)), (50, vi i11), (51, vb (decide (i11 < (r9.length : Int))))], stab [(0, .var [vl1 a0.Init, vi 0, vi 0, vh 0, vl3 [], vl4 a0.Rules]), (1, .var [.d (eL none (eL none (D.int .u16)) r5.1.States), vl0 r5.1.Edges]), (2, .lst true none (List.map D.bool l8)), (3, .mp (eM (D.int .i64) D.bool m10))], 4⟩ ?_ ?_
     ·
      refine q1 _ ?_
      exact RunOps.nil' (nm [0, 1, 2, 3] ⟨.pt 0, .pt 1, .lc 2, .d _, .mref 3 (show 3 < 4 by decide), .d _, .d _, .d _, .d _, trivial⟩ ⟨⟨show 0 < 4 by decide, _, rfl, .vars ⟨.d _, .d _, .d _, .d _, .d _, .d _, trivial⟩⟩, ⟨show 1 < 4 by decide, _, rfl, .vars ⟨.d _, .d _, trivial⟩⟩, ⟨show 2 < 4 by decide, _, rfl, .lst _ _ _⟩, ⟨show 3 < 4 by decide, _, rfl, .mp _⟩, trivial⟩)
     refine NWp.rng 49 rfl fun hB12 => ?_
     refine NWp.seq ?_
     refine NWp.condT (t := decide (i11 < (r9.length : Int))) rfl hc15 ?_
     refine NWp.skip ?_
     refine NWp.seq ?_
     refine NWp.block ?_
     obtain ⟨x17, hx17, h⟩ := bindE h
     refine NWp.opsJ ⟨tab [(1, .ptr 0 0 0), (3, .ptr 1 0 0), (5, .loc 2 0 l8.length), (6, vi 0), (7, .mref 3), (9, vi x17), (48, vl5 r9), (49, vi (r9.length : Int)), (50, vi i11)], stab [(0, .var [vl1 a0.Init, vi 0, vi 0, vh 0, vl3 [], vl4 a0.Rules]), (1, .var [.d (eL none (eL none (D.int .u16)) r5.1.States), vl0 r5.1.Edges]), (2, .lst true none (List.map D.bool l8)), (3, .mp (eM (D.int .i64) D.bool m10))], 4⟩ ?_ ?_
     ·
      refine step (v := .d (.cptr none (.int .i64 x17) 0)) (st_iaddr (xs := r9) (e := (D.int .i64)) hx17 rfl rfl) ?_
      iterate 2 refine q1 _ ?_
      exact RunOps.nil' (nm [0, 1, 2, 3] ⟨.pt 0, .pt 1, .lc 2, .d _, .mref 3 (show 3 < 4 by decide), .d _, .d _, .d _, .d _, trivial⟩ ⟨⟨show 0 < 4 by decide, _, rfl, .vars ⟨.d _, .d _, .d _, .d _, .d _, .d _, trivial⟩⟩, ⟨show 1 < 4 by decide, _, rfl, .vars ⟨.d _, .d _, trivial⟩⟩, ⟨show 2 < 4 by decide, _, rfl, .lst _ _ _⟩, ⟨show 3 < 4 by decide, _, rfl, .mp _⟩, trivial⟩)
     refine NWp.opsE ⟨tab [(1, .ptr 0 0 0), (3, .ptr 1 0 0), (5, .loc 2 0 l8.length), (6, vi 0), (7, .mref 3), (48, vl5 r9), (49, vi (r9.length : Int)), (50, vi i11)], stab [(0, .var [vl1 a0.Init, vi 0, vi 0, vh 0, vl3 [], vl4 a0.Rules]), (1, .var [.d (eL none (eL none (D.int .u16)) r5.1.States), vl0 r5.1.Edges]), (2, .lst true none (List.map D.bool l8)), (3, .mp (eM (D.int .i64) D.bool (mput m10 x17 true)))], 4⟩ ?_ ?_
     ·
      iterate 2 refine q1 _ ?_
      refine step (v := V.undef) (σ' := (upd (stab [(0, .var [vl1 a0.Init, vi 0, vi 0, vh 0, vl3 [], vl4 a0.Rules]), (1, .var [.d (eL none (eL none (D.int .u16)) r5.1.States), vl0 r5.1.Edges]), (2, .lst true none (List.map D.bool l8)), (3, .mp (eM (D.int .i64) D.bool m10))]) 3 (some (.mp (eM (D.int .i64) D.bool (mput m10 x17 true)))))) (n' := 4) (st_mset (ev := D.bool) (m := m10) (k := x17) (w := true) (key_int .i64) rfl rfl rfl rfl) ?_
      exact RunOps.nil' (nm [0, 1, 2, 3] ⟨.pt 0, .pt 1, .lc 2, .d _, .mref 3 (show 3 < 4 by decide), .d _, .d _, .d _, trivial⟩ ⟨⟨show 0 < 4 by decide, _, rfl, .vars ⟨.d _, .d _, .d _, .d _, .d _, .d _, trivial⟩⟩, ⟨show 1 < 4 by decide, _, rfl, .vars ⟨.d _, .d _, trivial⟩⟩, ⟨show 2 < 4 by decide, _, rfl, .lst _ _ _⟩, ⟨show 3 < 4 by decide, _, rfl, .mp _⟩, trivial⟩)
     have hh := Option.some.inj h
     subst hh
     refine NWp.opsE ⟨tab [(1, .ptr 0 0 0), (3, .ptr 1 0 0), (5, .loc 2 0 l8.length), (6, vi 0), (7, .mref 3), (48, vl5 r9), (49, vi (r9.length : Int)), (50, vi (i11 + 1))], stab [(0, .var [vl1 a0.Init, vi 0, vi 0, vh 0, vl3 [], vl4 a0.Rules]), (1, .var [.d (eL none (eL none (D.int .u16)) r5.1.States), vl0 r5.1.Edges]), (2, .lst true none (List.map D.bool l8)), (3, .mp (eM (D.int .i64) D.bool (mput m10 x17 true)))], 4⟩ ?_ ?_
     ·
      refine step (v := vi (i11 + 1)) (st_inc (inc_ok hinv14 hgo13 hB12) rfl rfl) ?_
      refine q1 _ ?_
      exact RunOps.nil' (nm [0, 1, 2, 3] ⟨.pt 0, .pt 1, .lc 2, .d _, .mref 3 (show 3 < 4 by decide), .d _, .d _, .d _, trivial⟩ ⟨⟨show 0 < 4 by decide, _, rfl, .vars ⟨.d _, .d _, .d _, .d _, .d _, .d _, trivial⟩⟩, ⟨show 1 < 4 by decide, _, rfl, .vars ⟨.d _, .d _, trivial⟩⟩, ⟨show 2 < 4 by decide, _, rfl, .lst _ _ _⟩, ⟨show 3 < 4 by decide, _, rfl, .mp _⟩, trivial⟩)
     exact And.intro rfl rfl
    ·
     rintro i11 m10 hinv14 hgo13
     show NWp _ _ _ _ _ ⟨tab [(1, .ptr 0 0 0), (3, .ptr 1 0 0), (5, .loc 2 0 l8.length), (6, vi 0), (7, .mref 3), (48, vl5 r9), (49, vi (r9.length : Int)), (50, vi i11)], stab [(0, .var [vl1 a0.Init, vi 0, vi 0, vh 0, vl3 [], vl4 a0.Rules]), (1, .var [.d (eL none (eL none (D.int .u16)) r5.1.States), vl0 r5.1.Edges]), (2, .lst true none (List.map D.bool l8)), (3, .mp (eM (D.int .i64) D.bool m10))], 4⟩
     have hc15 : ¬ (decide (i11 < (r9.length : Int)) = true) := fun hq => hgo13 (of_decide_eq_true hq)
     refine NWp.opsJ ⟨tab [(1, .ptr 0 0 0), (3, .ptr 1 0 0), (5, .loc 2 0 l8.length), (6, vi 0), (7, .mref 3), (48, vl5 r9), (49, vi (r9.length : Int)), (50, vi i11), (51, vb (decide (i11 < (r9.length : Int))))], stab [(0, .var [vl1 a0.Init, vi 0, vi 0, vh 0, vl3 [], vl4 a0.Rules]), (1, .var [.d (eL none (eL none (D.int .u16)) r5.1.States), vl0 r5.1.Edges]), (2, .lst true none (List.map D.bool l8)), (3, .mp (eM (D.int .i64) D.bool m10))], 4⟩ ?_ ?_
     ·
      refine q1 _ ?_
      exact RunOps.nil' (nm [0, 1, 2, 3] ⟨.pt 0, .pt 1, .lc 2, .d _, .mref 3 (show 3 < 4 by decide), .d _, .d _, .d _, .d _, trivial⟩ ⟨⟨show 0 < 4 by decide, _, rfl, .vars ⟨.d _, .d _, .d _, .d _, .d _, .d _, trivial⟩⟩, ⟨show 1 < 4 by decide, _, rfl, .vars ⟨.d _, .d _, trivial⟩⟩, ⟨show 2 < 4 by decide, _, rfl, .lst _ _ _⟩, ⟨show 3 < 4 by decide, _, rfl, .mp _⟩, trivial⟩)
     refine NWp.seq ?_
     refine NWp.condF (t := decide (i11 < (r9.length : Int))) rfl hc15 ?_
     refine NWp.norm (s0 := ⟨tab [(1, .ptr 0 0 0), (3, .ptr 1 0 0), (5, .loc 2 0 l8.length), (6, vi 0), (7, .mref 3)], stab [(0, .var [vl1 a0.Init, vi 0, vi 0, vh 0, vl3 [], vl4 a0.Rules]), (1, .var [.d (eL none (eL none (D.int .u16)) r5.1.States), vl0 r5.1.Edges]), (2, .lst true none (List.map D.bool l8)), (3, .mp (eM (D.int .i64) D.bool m10))], 4⟩) (nm [0, 1, 2, 3] ⟨.pt 0, .pt 1, .lc 2, .d _, .mref 3 (show 3 < 4 by decide), trivial⟩ ⟨⟨show 0 < 4 by decide, _, rfl, .vars ⟨.d _, .d _, .d _, .d _, .d _, .d _, trivial⟩⟩, ⟨show 1 < 4 by decide, _, rfl, .vars ⟨.d _, .d _, trivial⟩⟩, ⟨show 2 < 4 by decide, _, rfl, .lst _ _ _⟩, ⟨show 3 < 4 by decide, _, rfl, .mp _⟩, trivial⟩) ?_
     refine NWp.exit ?_
     exact And.intro rfl rfl
    refine NWp.seq ?_
    refine NWp.opsJ ⟨tab [(1, .ptr 0 0 0), (3, .ptr 1 0 0), (5, .loc 2 0 l8.length), (6, vi 0), (7, .mref 3), (58, .d (eL none (eL none (D.int .u16)) r5.1.States)), (59, vi (r5.1.States.length : Int)), (60, vi 0)], stab [(0, .var [vl1 a0.Init, vi 0, vi 0, vh 0, vl3 [], vl4 a0.Rules]), (1, .var [.d (eL none (eL none (D.int .u16)) r5.1.States), vl0 r5.1.Edges]), (2, .lst true none (List.map D.bool l8)), (3, .mp (eM (D.int .i64) D.bool z18))], 4⟩ ?_ ?_
    ·
     iterate 2 refine q1 _ ?_
     refine step (v := vi (r5.1.States.length : Int)) (st_len (xs := r5.1.States) (e := (eL none (D.int .u16))) rfl) ?_
     refine q1 _ ?_
     exact RunOps.nil' (nm [0, 1, 2, 3] ⟨.pt 0, .pt 1, .lc 2, .d _, .mref 3 (show 3 < 4 by decide), .d _, .d _, .d _, trivial⟩ ⟨⟨show 0 < 4 by decide, _, rfl, .vars ⟨.d _, .d _, .d _, .d _, .d _, .d _, trivial⟩⟩, ⟨show 1 < 4 by decide, _, rfl, .vars ⟨.d _, .d _, trivial⟩⟩, ⟨show 2 < 4 by decide, _, rfl, .lst _ _ _⟩, ⟨show 3 < 4 by decide, _, rfl, .mp _⟩, trivial⟩)
    obtain ⟨q80, hl, h⟩ := bindE h
    refine NWp.block ?_
    refine loop_forR (cntU (r5.1.States.length : Int)) (fun (i21 : Int) (qq : ((List Bool) × Int)) => ⟨tab [(1, .ptr 0 0 0), (3, .ptr 1 0 0), (5, .loc 2 0 qq.1.length), (6, vi qq.2), (7, .mref 3), (58, .d (eL none (eL none (D.int .u16)) r5.1.States)), (59, vi (r5.1.States.length : Int)), (60, vi i21)], stab [(0, .var [vl1 a0.Init, vi 0, vi 0, vh 0, vl3 [], vl4 a0.Rules]), (1, .var [.d (eL none (eL none (D.int .u16)) r5.1.States), vl0 r5.1.Edges]), (2, .lst true none (List.map D.bool qq.1)), (3, .mp (eM (D.int .i64) D.bool z18))], 4⟩) 2 (fun (qq : ((List Bool) × Int)) => ⟨tab [(3, .ptr 0 0 0), (5, .loc 1 0 qq.1.length), (6, vi qq.2), (7, .mref 2)], stab [(0, .var [.d (eL none (eL none (D.int .u16)) r5.1.States), vl0 r5.1.Edges]), (1, .lst true none (List.map D.bool qq.1)), (2, .mp (eM (D.int .i64) D.bool z18))], 3⟩) Low low_step (r := r) hl (by unfold Low; omega) ?_ ?_ ?_ ?_
    ·
     rintro i21 ⟨l19, i20⟩ xr26 hinv24 hgo23 h
     show NWp _ _ _ _ _ ⟨tab [(1, .ptr 0 0 0), (3, .ptr 1 0 0), (5, .loc 2 0 l19.length), (6, vi i20), (7, .mref 3), (58, .d (eL none (eL none (D.int .u16)) r5.1.States)), (59, vi (r5.1.States.length : Int)), (60, vi i21)], stab [(0, .var [vl1 a0.Init, vi 0, vi 0, vh 0, vl3 [], vl4 a0.Rules]), (1, .var [.d (eL none (eL none (D.int .u16)) r5.1.States), vl0 r5.1.Edges]), (2, .lst true none (List.map D.bool l19)), (3, .mp (eM (D.int .i64) D.bool z18))], 4⟩
     have hc25 : decide (i21 < (r5.1.States.length : Int)) = true := decide_eq_true hgo23
     refine NWp.opsJ ⟨tab [(1, .ptr 0 0 0), (3, .ptr 1 0 0), (5, .loc 2 0 l19.length), (6, vi i20), (7, .mref 3), (58, .d (eL none (eL none (D.int .u16)) r5.1.States)), (59, vi (r5.1.States.length : Int)), (60, vi i21), (61, vb (decide (i21 < (r5.1.States.length : Int))))], stab [(0, .var [vl1 a0.Init, vi 0, vi 0, vh 0, vl3 [], vl4 a0.Rules]), (1, .var [.d (eL none (eL none (D.int .u16)) r5.1.States), vl0 r5.1.Edges]), (2, .lst true none (List.map D.bool l19)), (3, .mp (eM (D.int .i64) D.bool z18))], 4⟩ ?_ ?_
     ·
      refine q1 _ ?_
      exact RunOps.nil' (nm [0, 1, 2, 3] ⟨.pt 0, .pt 1, .lc 2, .d _, .mref 3 (show 3 < 4 by decide), .d _, .d _, .d _, .d _, trivial⟩ ⟨⟨show 0 < 4 by decide, _, rfl, .vars ⟨.d _, .d _, .d _, .d _, .d _, .d _, trivial⟩⟩, ⟨show 1 < 4 by decide, _, rfl, .vars ⟨.d _, .d _, trivial⟩⟩, ⟨show 2 < 4 by decide, _, rfl, .lst _ _ _⟩, ⟨show 3 < 4 by decide, _, rfl, .mp _⟩, trivial⟩)
     refine NWp.rng 59 rfl fun hB22 => ?_
     refine NWp.seq ?_
     refine NWp.condT (t := decide (i21 < (r5.1.States.length : Int))) rfl hc25 ?_
     refine NWp.skip ?_
     refine NWp.seq ?_
     refine NWp.block ?_
     obtain ⟨x27, hx27, h⟩ := bindE h
     refine NWp.opsJ ⟨tab [(1, .ptr 0 0 0), (3, .ptr 1 0 0), (5, .loc 2 0 l19.length), (6, vi i20), (7, .mref 3), (10, vi i21), (11, vl1 x27), (58, .d (eL none (eL none (D.int .u16)) r5.1.States)), (59, vi (r5.1.States.length : Int)), (60, vi i21)], stab [(0, .var [vl1 a0.Init, vi 0, vi 0, vh 0, vl3 [], vl4 a0.Rules]), (1, .var [.d (eL none (eL none (D.int .u16)) r5.1.States), vl0 r5.1.Edges]), (2, .lst true none (List.map D.bool l19)), (3, .mp (eM (D.int .i64) D.bool z18))], 4⟩ ?_ ?_
     ·
      refine q1 _ ?_
      refine step (v := .d (.cptr none (eL none (D.int .u16) x27) 0)) (st_iaddr (xs := r5.1.States) (e := (eL none (D.int .u16))) hx27 rfl rfl) ?_
      iterate 3 refine q1 _ ?_
      exact RunOps.nil' (nm [0, 1, 2, 3] ⟨.pt 0, .pt 1, .lc 2, .d _, .mref 3 (show 3 < 4 by decide), .d _, .d _, .d _, .d _, .d _, trivial⟩ ⟨⟨show 0 < 4 by decide, _, rfl, .vars ⟨.d _, .d _, .d _, .d _, .d _, .d _, trivial⟩⟩, ⟨show 1 < 4 by decide, _, rfl, .vars ⟨.d _, .d _, trivial⟩⟩, ⟨show 2 < 4 by decide, _, rfl, .lst _ _ _⟩, ⟨show 3 < 4 by decide, _, rfl, .mp _⟩, trivial⟩)
     obtain ⟨r28, hr28, h⟩ := bindE h
     refine NWp.opsJ ⟨tab [(1, .ptr 0 0 0), (3, .ptr 1 0 0), (5, .loc 2 0 l19.length), (6, vi i20), (7, .mref 3), (10, vi i21), (11, vl1 x27), (12, vl0 r28), (58, .d (eL none (eL none (D.int .u16)) r5.1.States)), (59, vi (r5.1.States.length : Int)), (60, vi i21)], stab [(0, .var [vl1 a0.Init, vi 0, vi 0, vh 0, vl3 [], vl4 a0.Rules]), (1, .var [.d (eL none (eL none (D.int .u16)) r5.1.States), vl0 r5.1.Edges]), (2, .lst true none (List.map D.bool l19)), (3, .mp (eM (D.int .i64) D.bool z18))], 4⟩ ?_ ?_
     ·
      refine step (v := vs1 r5.1) (st_ldV (ds := [eL none (eL none (D.int .u16)) r5.1.States, eL (some 3) eapi_Edge r5.1.Edges]) rfl rfl (show 2 ≤ 2 by decide) rfl) ?_
      refine q1 _ ?_
      refine stepC (r := eL (some 3) eapi_Edge r28) (ArgsOk.dt (ArgsOk.dt ArgsOk.nil')) (c_space_From hr28) ?_
      refine q1 _ ?_
      exact RunOps.nil' (nm [0, 1, 2, 3] ⟨.pt 0, .pt 1, .lc 2, .d _, .mref 3 (show 3 < 4 by decide), .d _, .d _, .d _, .d _, .d _, .d _, trivial⟩ ⟨⟨show 0 < 4 by decide, _, rfl, .vars ⟨.d _, .d _, .d _, .d _, .d _, .d _, trivial⟩⟩, ⟨show 1 < 4 by decide, _, rfl, .vars ⟨.d _, .d _, trivial⟩⟩, ⟨show 2 < 4 by decide, _, rfl, .lst _ _ _⟩, ⟨show 3 < 4 by decide, _, rfl, .mp _⟩, trivial⟩)
     refine NWp.opsJ ⟨tab [(1, .ptr 0 0 0), (3, .ptr 1 0 0), (5, .loc 2 0 l19.length), (6, vi (IntKind.i64.wrap (i20 + (r28.length : Int)))), (7, .mref 3), (10, vi i21), (11, vl1 x27), (12, vl0 r28), (58, .d (eL none (eL none (D.int .u16)) r5.1.States)), (59, vi (r5.1.States.length : Int)), (60, vi i21)], stab [(0, .var [vl1 a0.Init, vi 0, vi 0, vh 0, vl3 [], vl4 a0.Rules]), (1, .var [.d (eL none (eL none (D.int .u16)) r5.1.States), vl0 r5.1.Edges]), (2, .lst true none (List.map D.bool l19)), (3, .mp (eM (D.int .i64) D.bool z18))], 4⟩ ?_ ?_
     ·
      iterate 2 refine q1 _ ?_
      refine step (v := vi (r28.length : Int)) (st_len (xs := r28) (e := eapi_Edge) rfl) ?_
      iterate 2 refine q1 _ ?_
      exact RunOps.nil' (nm [0, 1, 2, 3] ⟨.pt 0, .pt 1, .lc 2, .d _, .mref 3 (show 3 < 4 by decide), .d _, .d _, .d _, .d _, .d _, .d _, trivial⟩ ⟨⟨show 0 < 4 by decide, _, rfl, .vars ⟨.d _, .d _, .d _, .d _, .d _, .d _, trivial⟩⟩, ⟨show 1 < 4 by decide, _, rfl, .vars ⟨.d _, .d _, trivial⟩⟩, ⟨show 2 < 4 by decide, _, rfl, .lst _ _ _⟩, ⟨show 3 < 4 by decide, _, rfl, .mp _⟩, trivial⟩)
     refine NWp.seq ?_
     refine NWp.opsJ ⟨tab [(1, .ptr 0 0 0), (3, .ptr 1 0 0), (5, .loc 2 0 l19.length), (6, vi (IntKind.i64.wrap (i20 + (r28.length : Int)))), (7, .mref 3), (10, vi i21), (11, vl1 x27), (12, vl0 r28), (58, .d (eL none (eL none (D.int .u16)) r5.1.States)), (59, vi (r5.1.States.length : Int)), (60, vi i21), (78, vb (!(((r28.length : Int) == 0) == ((mget z18 i21).getD false))))], stab [(0, .var [vl1 a0.Init, vi 0, vi 0, vh 0, vl3 [], vl4 a0.Rules]), (1, .var [.d (eL none (eL none (D.int .u16)) r5.1.States), vl0 r5.1.Edges]), (2, .lst true none (List.map D.bool l19)), (3, .mp (eM (D.int .i64) D.bool z18))], 4⟩ ?_ ?_
     ·
      refine q1 _ ?_
      refine step (v := vi (r28.length : Int)) (st_len (xs := r28) (e := eapi_Edge) rfl) ?_
      iterate 3 refine q1 _ ?_
      refine step (v := vb ((mget z18 i21).getD false)) (st_mget (ev := D.bool) (m := z18) (k := i21) (key_int .i64) false rfl rfl rfl rfl) ?_
      refine q1 _ ?_
      exact RunOps.nil' (nm [0, 1, 2, 3] ⟨.pt 0, .pt 1, .lc 2, .d _, .mref 3 (show 3 < 4 by decide), .d _, .d _, .d _, .d _, .d _, .d _, .d _, trivial⟩ ⟨⟨show 0 < 4 by decide, _, rfl, .vars ⟨.d _, .d _, .d _, .d _, .d _, .d _, trivial⟩⟩, ⟨show 1 < 4 by decide, _, rfl, .vars ⟨.d _, .d _, trivial⟩⟩, ⟨show 2 < 4 by decide, _, rfl, .lst _ _ _⟩, ⟨show 3 < 4 by decide, _, rfl, .mp _⟩, trivial⟩)
     by_cases hc29 : (!(((r28.length : Int) == 0) == ((mget z18 i21).getD false))) = true
     ·
      replace h := iteT hc29 h
      refine NWp.condT (t := (!(((r28.length : Int) == 0) == ((mget z18 i21).getD false)))) rfl hc29 ?_
      refine NWp.opsJ ⟨tab [(2, vb false)], stab [], 0⟩ ?_ ?_
      ·
       refine q1 _ ?_
       exact nR []
      obtain ⟨r30, kr30, hr⟩ := mapE (o := some false) (g := Br.ret) h
      subst hr
      have h := kr30
      have hh := Option.some.inj h
      subst hh
      refine NWp.ret ?_
      refine And.intro (fun hn => nomatch hn) ?_
      intro hq
      have hq := hq.symm
      subst hq
      show FQ _ _ _ _
      exact FQ.mk1 (.inr rfl) (res_t (v := vb false) rfl rfl) (RV.d trivial)
     ·
      replace h := iteF hc29 h
      refine NWp.condF (t := (!(((r28.length : Int) == 0) == ((mget z18 i21).getD false)))) rfl hc29 ?_
      refine NWp.skip ?_
      refine NWp.opsJ ⟨tab [(1, .ptr 0 0 0), (3, .ptr 1 0 0), (5, .loc 2 0 l19.length), (6, vi (IntKind.i64.wrap (i20 + (r28.length : Int)))), (7, .mref 3), (10, vi i21), (11, vl1 x27), (12, vl0 r28), (13, vi 0), (58, .d (eL none (eL none (D.int .u16)) r5.1.States)), (59, vi (r5.1.States.length : Int)), (60, vi i21)], stab [(0, .var [vl1 a0.Init, vi 0, vi 0, vh 0, vl3 [], vl4 a0.Rules]), (1, .var [.d (eL none (eL none (D.int .u16)) r5.1.States), vl0 r5.1.Edges]), (2, .lst true none (List.map D.bool l19)), (3, .mp (eM (D.int .i64) D.bool z18))], 4⟩ ?_ ?_
      ·
       refine q1 _ ?_
       exact RunOps.nil' (nm [0, 1, 2, 3] ⟨.pt 0, .pt 1, .lc 2, .d _, .mref 3 (show 3 < 4 by decide), .d _, .d _, .d _, .d _, .d _, .d _, .d _, trivial⟩ ⟨⟨show 0 < 4 by decide, _, rfl, .vars ⟨.d _, .d _, .d _, .d _, .d _, .d _, trivial⟩⟩, ⟨show 1 < 4 by decide, _, rfl, .vars ⟨.d _, .d _, trivial⟩⟩, ⟨show 2 < 4 by decide, _, rfl, .lst _ _ _⟩, ⟨show 3 < 4 by decide, _, rfl, .mp _⟩, trivial⟩)
      refine NWp.seq ?_
      refine NWp.opsJ ⟨tab [(1, .ptr 0 0 0), (3, .ptr 1 0 0), (5, .loc 2 0 l19.length), (6, vi (IntKind.i64.wrap (i20 + (r28.length : Int)))), (7, .mref 3), (10, vi i21), (11, vl1 x27), (12, vl0 r28), (13, vi 0), (58, .d (eL none (eL none (D.int .u16)) r5.1.States)), (59, vi (r5.1.States.length : Int)), (60, vi i21), (80, vl4 a0.Rules), (81, vi (a0.Rules.length : Int)), (82, vi 0)], stab [(0, .var [vl1 a0.Init, vi 0, vi 0, vh 0, vl3 [], vl4 a0.Rules]), (1, .var [.d (eL none (eL none (D.int .u16)) r5.1.States), vl0 r5.1.Edges]), (2, .lst true none (List.map D.bool l19)), (3, .mp (eM (D.int .i64) D.bool z18))], 4⟩ ?_ ?_
      ·
       iterate 2 refine q1 _ ?_
       refine step (v := vi (a0.Rules.length : Int)) (st_len (xs := a0.Rules) (e := eapi_Rule) rfl) ?_
       refine q1 _ ?_
       exact RunOps.nil' (nm [0, 1, 2, 3] ⟨.pt 0, .pt 1, .lc 2, .d _, .mref 3 (show 3 < 4 by decide), .d _, .d _, .d _, .d _, .d _, .d _, .d _, .d _, .d _, .d _, trivial⟩ ⟨⟨show 0 < 4 by decide, _, rfl, .vars ⟨.d _, .d _, .d _, .d _, .d _, .d _, trivial⟩⟩, ⟨show 1 < 4 by decide, _, rfl, .vars ⟨.d _, .d _, trivial⟩⟩, ⟨show 2 < 4 by decide, _, rfl, .lst _ _ _⟩, ⟨show 3 < 4 by decide, _, rfl, .mp _⟩, trivial⟩)
      obtain ⟨q64, hl, h⟩ := bindE h
      refine NWp.block ?_
      refine loop_forR (cntU (a0.Rules.length : Int)) (fun (i32 : Int) (qq : ((List Bool) × Int)) => ⟨tab [(1, .ptr 0 0 0), (3, .ptr 1 0 0), (5, .loc 2 0 qq.1.length), (6, vi (IntKind.i64.wrap (i20 + (r28.length : Int)))), (7, .mref 3), (10, vi i21), (11, vl1 x27), (12, vl0 r28), (13, vi qq.2), (58, .d (eL none (eL none (D.int .u16)) r5.1.States)), (59, vi (r5.1.States.length : Int)), (60, vi i21), (80, vl4 a0.Rules), (81, vi (a0.Rules.length : Int)), (82, vi i32)], stab [(0, .var [vl1 a0.Init, vi 0, vi 0, vh 0, vl3 [], vl4 a0.Rules]), (1, .var [.d (eL none (eL none (D.int .u16)) r5.1.States), vl0 r5.1.Edges]), (2, .lst true none (List.map D.bool qq.1)), (3, .mp (eM (D.int .i64) D.bool z18))], 4⟩) 4 (fun (qq : ((List Bool) × Int)) => ⟨tab [(1, .ptr 0 0 0), (3, .ptr 1 0 0), (5, .loc 2 0 qq.1.length), (6, vi (IntKind.i64.wrap (i20 + (r28.length : Int)))), (7, .mref 3), (12, vl0 r28), (13, vi qq.2), (58, .d (eL none (eL none (D.int .u16)) r5.1.States)), (59, vi (r5.1.States.length : Int)), (60, vi i21)], stab [(0, .var [vl1 a0.Init, vi 0, vi 0, vh 0, vl3 [], vl4 a0.Rules]), (1, .var [.d (eL none (eL none (D.int .u16)) r5.1.States), vl0 r5.1.Edges]), (2, .lst true none (List.map D.bool qq.1)), (3, .mp (eM (D.int .i64) D.bool z18))], 4⟩) Low low_step (r := xr26) hl (by unfold Low; omega) ?_ ?_ ?_ ?_
      ·
       rintro i32 ⟨l30, i31⟩ xr37 hinv35 hgo34 h
       show NWp _ _ _ _ _ ⟨tab [(1, .ptr 0 0 0), (3, .ptr 1 0 0), (5, .loc 2 0 l30.length), (6, vi (IntKind.i64.wrap (i20 + (r28.length : Int)))), (7, .mref 3), (10, vi i21), (11, vl1 x27), (12, vl0 r28), (13, vi i31), (58, .d (eL none (eL none (D.int .u16)) r5.1.States)), (59, vi (r5.1.States.length : Int)), (60, vi i21), (80, vl4 a0.Rules), (81, vi (a0.Rules.length : Int)), (82, vi i32)], stab [(0, .var [vl1 a0.Init, vi 0, vi 0, vh 0, vl3 [], vl4 a0.Rules]), (1, .var [.d (eL none (eL none (D.int .u16)) r5.1.States), vl0 r5.1.Edges]), (2, .lst true none (List.map D.bool l30)), (3, .mp (eM (D.int .i64) D.bool z18))], 4⟩
       have hc36 : decide (i32 < (a0.Rules.length : Int)) = true := decide_eq_true hgo34
       refine NWp.opsJ ⟨tab [(1, .ptr 0 0 0), (3, .ptr 1 0 0), (5, .loc 2 0 l30.length), (6, vi (IntKind.i64.wrap (i20 + (r28.length : Int)))), (7, .mref 3), (10, vi i21), (11, vl1 x27), (12, vl0 r28), (13, vi i31), (58, .d (eL none (eL none (D.int .u16)) r5.1.States)), (59, vi (r5.1.States.length : Int)), (60, vi i21), (80, vl4 a0.Rules), (81, vi (a0.Rules.length : Int)), (82, vi i32), (83, vb (decide (i32 < (a0.Rules.length : Int))))], stab [(0, .var [vl1 a0.Init, vi 0, vi 0, vh 0, vl3 [], vl4 a0.Rules]), (1, .var [.d (eL none (eL none (D.int .u16)) r5.1.States), vl0 r5.1.Edges]), (2, .lst true none (List.map D.bool l30)), (3, .mp (eM (D.int .i64) D.bool z18))], 4⟩ ?_ ?_
       ·
        refine q1 _ ?_
        exact RunOps.nil' (nm [0, 1, 2, 3] ⟨.pt 0, .pt 1, .lc 2, .d _, .mref 3 (show 3 < 4 by decide), .d _, .d _, .d _, .d _, .d _, .d _, .d _, .d _, .d _, .d _, .d _, trivial⟩ ⟨⟨show 0 < 4 by decide, _, rfl, .vars ⟨.d _, .d _, .d _, .d _, .d _, .d _, trivial⟩⟩, ⟨show 1 < 4 by decide, _, rfl, .vars ⟨.d _, .d _, trivial⟩⟩, ⟨show 2 < 4 by decide, _, rfl, .lst _ _ _⟩, ⟨show 3 < 4 by decide, _, rfl, .mp _⟩, trivial⟩)
       refine NWp.rng 81 rfl fun hB33 => ?_
       refine NWp.seq ?_
       refine NWp.condT (t := decide (i32 < (a0.Rules.length : Int))) rfl hc36 ?_
       refine NWp.skip ?_
       obtain ⟨q60, hv, h⟩ := bindE h
       refine NWp.seqS (fun (qq : ((List Bool) × Int)) => ⟨tab [(1, .ptr 0 0 0), (3, .ptr 1 0 0), (5, .loc 2 0 qq.1.length), (6, vi (IntKind.i64.wrap (i20 + (r28.length : Int)))), (7, .mref 3), (10, vi i21), (11, vl1 x27), (12, vl0 r28), (13, vi qq.2), (58, .d (eL none (eL none (D.int .u16)) r5.1.States)), (59, vi (r5.1.States.length : Int)), (60, vi i21), (80, vl4 a0.Rules), (81, vi (a0.Rules.length : Int)), (82, vi i32)], stab [(0, .var [vl1 a0.Init, vi 0, vi 0, vh 0, vl3 [], vl4 a0.Rules]), (1, .var [.d (eL none (eL none (D.int .u16)) r5.1.States), vl0 r5.1.Edges]), (2, .lst true none (List.map D.bool qq.1)), (3, .mp (eM (D.int .i64) D.bool z18))], 4⟩) (xv := q60) (r := xr37) ?_ ?_ ?_
       ·
        replace h := hv
        refine NWp.block ?_
        obtain ⟨x38, hx38, h⟩ := bindE h
        refine NWp.opsJ ⟨tab [(1, .ptr 0 0 0), (3, .ptr 1 0 0), (5, .loc 2 0 l30.length), (6, vi (IntKind.i64.wrap (i20 + (r28.length : Int)))), (7, .mref 3), (10, vi i21), (11, vl1 x27), (12, vl0 r28), (13, vi i31), (14, vi i32), (15, .ptr 4 0 0), (58, .d (eL none (eL none (D.int .u16)) r5.1.States)), (59, vi (r5.1.States.length : Int)), (60, vi i21), (80, vl4 a0.Rules), (81, vi (a0.Rules.length : Int)), (82, vi i32)], stab [(0, .var [vl1 a0.Init, vi 0, vi 0, vh 0, vl3 [], vl4 a0.Rules]), (1, .var [.d (eL none (eL none (D.int .u16)) r5.1.States), vl0 r5.1.Edges]), (2, .lst true none (List.map D.bool l30)), (3, .mp (eM (D.int .i64) D.bool z18)), (4, bv0 x38)], 5⟩ ?_ ?_
        ·
         refine q1 _ ?_
         refine step (v := vp3 x38) (st_iaddr (xs := a0.Rules) (e := eapi_Rule) hx38 rfl rfl) ?_
         refine q1 _ ?_
         refine step (v := .ptr 4 0 0) (σ' := (upd (stab [(0, .var [vl1 a0.Init, vi 0, vi 0, vh 0, vl3 [], vl4 a0.Rules]), (1, .var [.d (eL none (eL none (D.int .u16)) r5.1.States), vl0 r5.1.Edges]), (2, .lst true none (List.map D.bool l30)), (3, .mp (eM (D.int .i64) D.bool z18))]) 4 (some (.var [vl2 [], vl2 [], vl2 []])))) (n' := 5) rfl ?_
         refine q1 _ ?_
         refine step (v := V.undef) (σ' := (upd (upd (stab [(0, .var [vl1 a0.Init, vi 0, vi 0, vh 0, vl3 [], vl4 a0.Rules]), (1, .var [.d (eL none (eL none (D.int .u16)) r5.1.States), vl0 r5.1.Edges]), (2, .lst true none (List.map D.bool l30)), (3, .mp (eM (D.int .i64) D.bool z18))]) 4 (some (.var [vl2 [], vl2 [], vl2 []]))) 4 (some (bv0 x38)))) (n' := 5) rfl ?_
         exact RunOps.nil' (nm [0, 1, 2, 3, 4] ⟨.pt 0, .pt 1, .lc 2, .d _, .mref 3 (show 3 < 5 by decide), .d _, .d _, .d _, .d _, .d _, .pt 4, .d _, .d _, .d _, .d _, .d _, .d _, trivial⟩ ⟨⟨show 0 < 5 by decide, _, rfl, .vars ⟨.d _, .d _, .d _, .d _, .d _, .d _, trivial⟩⟩, ⟨show 1 < 5 by decide, _, rfl, .vars ⟨.d _, .d _, trivial⟩⟩, ⟨show 2 < 5 by decide, _, rfl, .lst _ _ _⟩, ⟨show 3 < 5 by decide, _, rfl, .mp _⟩, ⟨show 4 < 5 by decide, _, rfl, .vars ⟨.d _, .d _, .d _, trivial⟩⟩, trivial⟩)
        obtain ⟨r39, hr39, h⟩ := bindE h
        refine NWp.opsJ ⟨tab [(1, .ptr 0 0 0), (3, .ptr 1 0 0), (5, .loc 2 0 l30.length), (6, vi (IntKind.i64.wrap (i20 + (r28.length : Int)))), (7, .mref 3), (10, vi i21), (11, vl1 x27), (12, vl0 r28), (13, vi i31), (14, vi i32), (15, .ptr 4 0 0), (16, vl1 r39), (58, .d (eL none (eL none (D.int .u16)) r5.1.States)), (59, vi (r5.1.States.length : Int)), (60, vi i21), (80, vl4 a0.Rules), (81, vi (a0.Rules.length : Int)), (82, vi i32)], stab [(0, .var [vl1 a0.Init, vi 0, vi 0, vh 0, vl3 [], vl4 a0.Rules]), (1, .var [.d (eL none (eL none (D.int .u16)) r5.1.States), vl0 r5.1.Edges]), (2, .lst true none (List.map D.bool l30)), (3, .mp (eM (D.int .i64) D.bool z18)), (4, bv0 x38)], 5⟩ ?_ ?_
        ·
         refine step (v := vs4 x38) (st_ldV (ds := [eL (some 2) eapi_Pair x38.When, eL (some 2) eapi_Pair x38.Guard, eL (some 2) eapi_Pair x38.Then]) rfl rfl (show 3 ≤ 3 by decide) rfl) ?_
         refine q1 _ ?_
         refine stepC (r := eL none (D.int .u16) r39) (ArgsOk.dt (ArgsOk.dt ArgsOk.nil')) (c_ref11_After hr39) ?_
         refine q1 _ ?_
         exact RunOps.nil' (nm [0, 1, 2, 3, 4] ⟨.pt 0, .pt 1, .lc 2, .d _, .mref 3 (show 3 < 5 by decide), .d _, .d _, .d _, .d _, .d _, .pt 4, .d _, .d _, .d _, .d _, .d _, .d _, .d _, trivial⟩ ⟨⟨show 0 < 5 by decide, _, rfl, .vars ⟨.d _, .d _, .d _, .d _, .d _, .d _, trivial⟩⟩, ⟨show 1 < 5 by decide, _, rfl, .vars ⟨.d _, .d _, trivial⟩⟩, ⟨show 2 < 5 by decide, _, rfl, .lst _ _ _⟩, ⟨show 3 < 5 by decide, _, rfl, .mp _⟩, ⟨show 4 < 5 by decide, _, rfl, .vars ⟨.d _, .d _, .d _, trivial⟩⟩, trivial⟩)
        refine NWp.seq ?_
        obtain ⟨r40, hr40, h⟩ := bindE h
        obtain ⟨y43, hv, h⟩ := bindE h
        refine NWp.opsJ ⟨tab [(1, .ptr 0 0 0), (3, .ptr 1 0 0), (5, .loc 2 0 l30.length), (6, vi (IntKind.i64.wrap (i20 + (r28.length : Int)))), (7, .mref 3), (10, vi i21), (11, vl1 x27), (12, vl0 r28), (13, vi i31), (14, vi i32), (16, vl1 r39), (58, .d (eL none (eL none (D.int .u16)) r5.1.States)), (59, vi (r5.1.States.length : Int)), (60, vi i21), (80, vl4 a0.Rules), (81, vi (a0.Rules.length : Int)), (82, vi i32), (98, vb y43)], stab [(0, .var [vl1 a0.Init, vi 0, vi 0, vh 0, vl3 [], vl4 a0.Rules]), (1, .var [.d (eL none (eL none (D.int .u16)) r5.1.States), vl0 r5.1.Edges]), (2, .lst true none (List.map D.bool l30)), (3, .mp (eM (D.int .i64) D.bool z18))], 4⟩ ?_ ?_
        ·
         refine step (v := vs4 x38) (st_ldV (ds := [eL (some 2) eapi_Pair x38.When, eL (some 2) eapi_Pair x38.Guard, eL (some 2) eapi_Pair x38.Then]) rfl rfl (show 3 ≤ 3 by decide) rfl) ?_
         refine q1 _ ?_
         refine stepC (r := .bool r40) (ArgsOk.dt (ArgsOk.dt ArgsOk.nil')) (c_ref11_Goes hr40) ?_
         iterate 2 refine q1 _ ?_
         by_cases hg41 : (!r40) = true
         ·
          replace hv := iteT hg41 hv
          iterate 3 refine qX (!r40) (by rw [hg41]; decide) ?_
          refine step (v := vb true) (st_pickT (b := (!r40)) rfl hg41 rfl) ?_
          have hh := Option.some.inj hv
          subst hh
          exact RunOps.nil' (nm [0, 1, 2, 3] ⟨.pt 0, .pt 1, .lc 2, .d _, .mref 3 (show 3 < 4 by decide), .d _, .d _, .d _, .d _, .d _, .d _, .d _, .d _, .d _, .d _, .d _, .d _, .d _, trivial⟩ ⟨⟨show 0 < 4 by decide, _, rfl, .vars ⟨.d _, .d _, .d _, .d _, .d _, .d _, trivial⟩⟩, ⟨show 1 < 4 by decide, _, rfl, .vars ⟨.d _, .d _, trivial⟩⟩, ⟨show 2 < 4 by decide, _, rfl, .lst _ _ _⟩, ⟨show 3 < 4 by decide, _, rfl, .mp _⟩, trivial⟩)
         ·
          replace hv := iteF hg41 hv
          obtain ⟨r42, hr42, hv⟩ := bindE hv
          refine qG (!r40) (Bool.eq_false_iff.2 hg41) ?_
          refine q1 _ ?_
          refine qG (!r40) (Bool.eq_false_iff.2 hg41) ?_
          refine q1 _ ?_
          refine qG (!r40) (Bool.eq_false_iff.2 hg41) ?_
          refine stepC (r := .bool r42) (ArgsOk.dt (ArgsOk.dt ArgsOk.nil')) (c_ref11_Same hr42) ?_
          refine step (v := vb r42) (st_pickF (b := (!r40)) rfl hg41 rfl) ?_
          have hh := Option.some.inj hv
          subst hh
          exact RunOps.nil' (nm [0, 1, 2, 3] ⟨.pt 0, .pt 1, .lc 2, .d _, .mref 3 (show 3 < 4 by decide), .d _, .d _, .d _, .d _, .d _, .d _, .d _, .d _, .d _, .d _, .d _, .d _, .d _, trivial⟩ ⟨⟨show 0 < 4 by decide, _, rfl, .vars ⟨.d _, .d _, .d _, .d _, .d _, .d _, trivial⟩⟩, ⟨show 1 < 4 by decide, _, rfl, .vars ⟨.d _, .d _, trivial⟩⟩, ⟨show 2 < 4 by decide, _, rfl, .lst _ _ _⟩, ⟨show 3 < 4 by decide, _, rfl, .mp _⟩, trivial⟩)
        by_cases hc45 : y43 = true
        ·
         replace h := iteT hc45 h
         refine NWp.condT (t := y43) rfl hc45 ?_
         have hh := Option.some.inj h
         subst hh
         refine NWp.norm (s0 := ⟨tab [(1, .ptr 0 0 0), (3, .ptr 1 0 0), (5, .loc 2 0 l30.length), (6, vi (IntKind.i64.wrap (i20 + (r28.length : Int)))), (7, .mref 3), (10, vi i21), (11, vl1 x27), (12, vl0 r28), (13, vi i31), (58, .d (eL none (eL none (D.int .u16)) r5.1.States)), (59, vi (r5.1.States.length : Int)), (60, vi i21), (80, vl4 a0.Rules), (81, vi (a0.Rules.length : Int)), (82, vi i32)], stab [(0, .var [vl1 a0.Init, vi 0, vi 0, vh 0, vl3 [], vl4 a0.Rules]), (1, .var [.d (eL none (eL none (D.int .u16)) r5.1.States), vl0 r5.1.Edges]), (2, .lst true none (List.map D.bool l30)), (3, .mp (eM (D.int .i64) D.bool z18))], 4⟩) (nm [0, 1, 2, 3] ⟨.pt 0, .pt 1, .lc 2, .d _, .mref 3 (show 3 < 4 by decide), .d _, .d _, .d _, .d _, .d _, .d _, .d _, .d _, .d _, .d _, trivial⟩ ⟨⟨show 0 < 4 by decide, _, rfl, .vars ⟨.d _, .d _, .d _, .d _, .d _, .d _, trivial⟩⟩, ⟨show 1 < 4 by decide, _, rfl, .vars ⟨.d _, .d _, trivial⟩⟩, ⟨show 2 < 4 by decide, _, rfl, .lst _ _ _⟩, ⟨show 3 < 4 by decide, _, rfl, .mp _⟩, trivial⟩) ?_
         refine NWp.exit ?_
         exact And.intro rfl rfl
        ·
         replace h := iteF hc45 h
         refine NWp.condF (t := y43) rfl hc45 ?_
         refine NWp.skip ?_
         refine NWp.seq ?_
         obtain ⟨y52, hv, h⟩ := bindE h
         refine NWp.opsJ ⟨tab [(1, .ptr 0 0 0), (3, .ptr 1 0 0), (5, .loc 2 0 l30.length), (6, vi (IntKind.i64.wrap (i20 + (r28.length : Int)))), (7, .mref 3), (10, vi i21), (11, vl1 x27), (12, vl0 r28), (13, vi i31), (58, .d (eL none (eL none (D.int .u16)) r5.1.States)), (59, vi (r5.1.States.length : Int)), (60, vi i21), (80, vl4 a0.Rules), (81, vi (a0.Rules.length : Int)), (82, vi i32), (134, vb y52)], stab [(0, .var [vl1 a0.Init, vi 0, vi 0, vh 0, vl3 [], vl4 a0.Rules]), (1, .var [.d (eL none (eL none (D.int .u16)) r5.1.States), vl0 r5.1.Edges]), (2, .lst true none (List.map D.bool l30)), (3, .mp (eM (D.int .i64) D.bool z18))], 4⟩ ?_ ?_
         ·
          iterate 2 refine q1 _ ?_
          refine step (v := vi (r28.length : Int)) (st_len (xs := r28) (e := eapi_Edge) rfl) ?_
          iterate 2 refine q1 _ ?_
          by_cases hg46 : decide (i31 ≥ (r28.length : Int)) = true
          ·
           replace hv := iteT hg46 hv
           iterate 7 refine qX (decide (i31 ≥ (r28.length : Int))) (by rw [hg46]; decide) ?_
           refine step (v := vb true) (st_pickT (b := decide (i31 ≥ (r28.length : Int))) rfl hg46 rfl) ?_
           refine q1 _ ?_
           iterate 7 refine qX true (by decide) ?_
           refine step (v := vb true) (st_pickT (b := true) rfl rfl rfl) ?_
           refine q1 _ ?_
           iterate 12 refine qX true (by decide) ?_
           refine step (v := vb true) (st_pickT (b := true) rfl rfl rfl) ?_
           have hh := Option.some.inj hv
           subst hh
           exact RunOps.nil' (nm [0, 1, 2, 3] ⟨.pt 0, .pt 1, .lc 2, .d _, .mref 3 (show 3 < 4 by decide), .d _, .d _, .d _, .d _, .d _, .d _, .d _, .d _, .d _, .d _, .d _, trivial⟩ ⟨⟨show 0 < 4 by decide, _, rfl, .vars ⟨.d _, .d _, .d _, .d _, .d _, .d _, trivial⟩⟩, ⟨show 1 < 4 by decide, _, rfl, .vars ⟨.d _, .d _, trivial⟩⟩, ⟨show 2 < 4 by decide, _, rfl, .lst _ _ _⟩, ⟨show 3 < 4 by decide, _, rfl, .mp _⟩, trivial⟩)
          ·
           replace hv := iteF hg46 hv
           obtain ⟨x47, hx47, hv⟩ := bindE hv
           refine qG (decide (i31 ≥ (r28.length : Int))) (Bool.eq_false_iff.2 hg46) ?_
           refine q1 _ ?_
           refine qG (decide (i31 ≥ (r28.length : Int))) (Bool.eq_false_iff.2 hg46) ?_
           refine q1 _ ?_
           refine qG (decide (i31 ≥ (r28.length : Int))) (Bool.eq_false_iff.2 hg46) ?_
           refine step (v := vp5 x47) (st_iaddr (xs := r28) (e := eapi_Edge) hx47 rfl rfl) ?_
           refine qG (decide (i31 ≥ (r28.length : Int))) (Bool.eq_false_iff.2 hg46) ?_
           refine q1 _ ?_
           refine qG (decide (i31 ≥ (r28.length : Int))) (Bool.eq_false_iff.2 hg46) ?_
           refine q1 _ ?_
           refine qG (decide (i31 ≥ (r28.length : Int))) (Bool.eq_false_iff.2 hg46) ?_
           refine q1 _ ?_
           refine qG (decide (i31 ≥ (r28.length : Int))) (Bool.eq_false_iff.2 hg46) ?_
           refine q1 _ ?_
           refine step (v := vb (x47.From != i21)) (st_pickF (b := decide (i31 ≥ (r28.length : Int))) rfl hg46 rfl) ?_
           refine q1 _ ?_
           by_cases hg48 : (x47.From != i21) = true
           ·
            replace hv := iteT hg48 hv
            iterate 7 refine qX (x47.From != i21) (by rw [hg48]; decide) ?_
            refine step (v := vb true) (st_pickT (b := (x47.From != i21)) rfl hg48 rfl) ?_
            refine q1 _ ?_
            iterate 12 refine qX true (by decide) ?_
            refine step (v := vb true) (st_pickT (b := true) rfl rfl rfl) ?_
            have hh := Option.some.inj hv
            subst hh
            exact RunOps.nil' (nm [0, 1, 2, 3] ⟨.pt 0, .pt 1, .lc 2, .d _, .mref 3 (show 3 < 4 by decide), .d _, .d _, .d _, .d _, .d _, .d _, .d _, .d _, .d _, .d _, .d _, trivial⟩ ⟨⟨show 0 < 4 by decide, _, rfl, .vars ⟨.d _, .d _, .d _, .d _, .d _, .d _, trivial⟩⟩, ⟨show 1 < 4 by decide, _, rfl, .vars ⟨.d _, .d _, trivial⟩⟩, ⟨show 2 < 4 by decide, _, rfl, .lst _ _ _⟩, ⟨show 3 < 4 by decide, _, rfl, .mp _⟩, trivial⟩)
           ·
            replace hv := iteF hg48 hv
            refine qG (x47.From != i21) (Bool.eq_false_iff.2 hg48) ?_
            refine q1 _ ?_
            refine qG (x47.From != i21) (Bool.eq_false_iff.2 hg48) ?_
            refine q1 _ ?_
            refine qG (x47.From != i21) (Bool.eq_false_iff.2 hg48) ?_
            refine step (v := vp5 x47) (st_iaddr (xs := r28) (e := eapi_Edge) hx47 rfl rfl) ?_
            refine qG (x47.From != i21) (Bool.eq_false_iff.2 hg48) ?_
            refine q1 _ ?_
            refine qG (x47.From != i21) (Bool.eq_false_iff.2 hg48) ?_
            refine q1 _ ?_
            refine qG (x47.From != i21) (Bool.eq_false_iff.2 hg48) ?_
            refine q1 _ ?_
            refine qG (x47.From != i21) (Bool.eq_false_iff.2 hg48) ?_
            refine q1 _ ?_
            refine step (v := vb (x47.Rule != i32)) (st_pickF (b := (x47.From != i21)) rfl hg48 rfl) ?_
            refine q1 _ ?_
            by_cases hg49 : (x47.Rule != i32) = true
            ·
             replace hv := iteT hg49 hv
             iterate 12 refine qX (x47.Rule != i32) (by rw [hg49]; decide) ?_
             refine step (v := vb true) (st_pickT (b := (x47.Rule != i32)) rfl hg49 rfl) ?_
             have hh := Option.some.inj hv
             subst hh
             exact RunOps.nil' (nm [0, 1, 2, 3] ⟨.pt 0, .pt 1, .lc 2, .d _, .mref 3 (show 3 < 4 by decide), .d _, .d _, .d _, .d _, .d _, .d _, .d _, .d _, .d _, .d _, .d _, trivial⟩ ⟨⟨show 0 < 4 by decide, _, rfl, .vars ⟨.d _, .d _, .d _, .d _, .d _, .d _, trivial⟩⟩, ⟨show 1 < 4 by decide, _, rfl, .vars ⟨.d _, .d _, trivial⟩⟩, ⟨show 2 < 4 by decide, _, rfl, .lst _ _ _⟩, ⟨show 3 < 4 by decide, _, rfl, .mp _⟩, trivial⟩)
            ·
             replace hv := iteF hg49 hv
             obtain ⟨x50, hx50, hv⟩ := bindE hv
             obtain ⟨r51, hr51, hv⟩ := bindE hv
             refine qG (x47.Rule != i32) (Bool.eq_false_iff.2 hg49) ?_
             refine q1 _ ?_
             refine qG (x47.Rule != i32) (Bool.eq_false_iff.2 hg49) ?_
             refine q1 _ ?_
             refine qG (x47.Rule != i32) (Bool.eq_false_iff.2 hg49) ?_
             refine q1 _ ?_
             refine qG (x47.Rule != i32) (Bool.eq_false_iff.2 hg49) ?_
             refine q1 _ ?_
             refine qG (x47.Rule != i32) (Bool.eq_false_iff.2 hg49) ?_
             refine step (v := vp5 x47) (st_iaddr (xs := r28) (e := eapi_Edge) hx47 rfl rfl) ?_
             refine qG (x47.Rule != i32) (Bool.eq_false_iff.2 hg49) ?_
             refine q1 _ ?_
             refine qG (x47.Rule != i32) (Bool.eq_false_iff.2 hg49) ?_
             refine q1 _ ?_
             refine qG (x47.Rule != i32) (Bool.eq_false_iff.2 hg49) ?_
             refine step (v := .d (.cptr none (eL none (D.int .u16) x50) 0)) (st_iaddr (xs := r5.1.States) (e := (eL none (D.int .u16))) hx50 rfl rfl) ?_
             refine qG (x47.Rule != i32) (Bool.eq_false_iff.2 hg49) ?_
             refine q1 _ ?_
             refine qG (x47.Rule != i32) (Bool.eq_false_iff.2 hg49) ?_
             refine q1 _ ?_
             refine qG (x47.Rule != i32) (Bool.eq_false_iff.2 hg49) ?_
             refine stepC (r := .bool r51) (ArgsOk.dt (ArgsOk.dt ArgsOk.nil')) (c_ref11_Same hr51) ?_
             refine qG (x47.Rule != i32) (Bool.eq_false_iff.2 hg49) ?_
             refine q1 _ ?_
             refine step (v := vb (!r51)) (st_pickF (b := (x47.Rule != i32)) rfl hg49 rfl) ?_
             have hh := Option.some.inj hv
             subst hh
             exact RunOps.nil' (nm [0, 1, 2, 3] ⟨.pt 0, .pt 1, .lc 2, .d _, .mref 3 (show 3 < 4 by decide), .d _, .d _, .d _, .d _, .d _, .d _, .d _, .d _, .d _, .d _, .d _, trivial⟩ ⟨⟨show 0 < 4 by decide, _, rfl, .vars ⟨.d _, .d _, .d _, .d _, .d _, .d _, trivial⟩⟩, ⟨show 1 < 4 by decide, _, rfl, .vars ⟨.d _, .d _, trivial⟩⟩, ⟨show 2 < 4 by decide, _, rfl, .lst _ _ _⟩, ⟨show 3 < 4 by decide, _, rfl, .mp _⟩, trivial⟩)
         by_cases hc54 : y52 = true
         ·
          replace h := iteT hc54 h
          refine NWp.condT (t := y52) rfl hc54 ?_
          refine NWp.opsJ ⟨tab [(2, vb false)], stab [], 0⟩ ?_ ?_
          ·
           refine q1 _ ?_
           exact nR []
          obtain ⟨r55, kr55, hr⟩ := mapE (o := some (Br.ret (Br.ret false))) (g := Sum.inr) h
          subst hr
          have h := kr55
          obtain ⟨r56, kr56, hr⟩ := mapE (o := some (Br.ret false)) (g := Br.ret) h
          subst hr
          have h := kr56
          obtain ⟨r57, kr57, hr⟩ := mapE (o := some false) (g := Br.ret) h
          subst hr
          have h := kr57
          have hh := Option.some.inj h
          subst hh
          refine NWp.ret ?_
          refine And.intro (fun hn => nomatch hn) ?_
          intro hq
          have hq := hq.symm
          subst hq
          refine And.intro (fun hn => nomatch hn) ?_
          intro hq
          have hq := hq.symm
          subst hq
          refine And.intro (fun hn => nomatch hn) ?_
          intro hq
          have hq := hq.symm
          subst hq
          show FQ _ _ _ _
          exact FQ.mk1 (.inr rfl) (res_t (v := vb false) rfl rfl) (RV.d trivial)
         ·
          replace h := iteF hc54 h
          refine NWp.condF (t := y52) rfl hc54 ?_
          refine NWp.skip ?_
          obtain ⟨x55, hx55, h⟩ := bindE h
          obtain ⟨x56, hx56, h⟩ := bindE h
          obtain ⟨l57, hl57, h⟩ := bindE h
          refine NWp.opsJ ⟨tab [(1, .ptr 0 0 0), (3, .ptr 1 0 0), (5, .loc 2 0 l57.length), (6, vi (IntKind.i64.wrap (i20 + (r28.length : Int)))), (7, .mref 3), (10, vi i21), (11, vl1 x27), (12, vl0 r28), (13, vi i31), (58, .d (eL none (eL none (D.int .u16)) r5.1.States)), (59, vi (r5.1.States.length : Int)), (60, vi i21), (80, vl4 a0.Rules), (81, vi (a0.Rules.length : Int)), (82, vi i32)], stab [(0, .var [vl1 a0.Init, vi 0, vi 0, vh 0, vl3 [], vl4 a0.Rules]), (1, .var [.d (eL none (eL none (D.int .u16)) r5.1.States), vl0 r5.1.Edges]), (2, .lst true none (List.map D.bool l57)), (3, .mp (eM (D.int .i64) D.bool z18))], 4⟩ ?_ ?_
          ·
           iterate 3 refine q1 _ ?_
           refine step (v := vp5 x55) (st_iaddr (xs := r28) (e := eapi_Edge) hx55 rfl rfl) ?_
           iterate 2 refine q1 _ ?_
           refine step (v := .ptr 2 x55.To.toNat 0) (st_iaddrL (xs := l30) (e := D.bool) hx56 rfl rfl rfl rfl) ?_
           refine step (v := V.undef) (σ' := (upd (stab [(0, .var [vl1 a0.Init, vi 0, vi 0, vh 0, vl3 [], vl4 a0.Rules]), (1, .var [.d (eL none (eL none (D.int .u16)) r5.1.States), vl0 r5.1.Edges]), (2, .lst true none (List.map D.bool l30)), (3, .mp (eM (D.int .i64) D.bool z18))]) 2 (some (.lst true none (List.map D.bool l57))))) (n' := 4) (st_storeL' (e := D.bool) (v' := true) hl57 rfl rfl rfl rfl rfl) ?_
           exact RunOps.nil' (nm [0, 1, 2, 3] ⟨.pt 0, .pt 1, .le (id := 2) (gput_len hl57).symm (show 2 < 4 by decide), .d _, .mref 3 (show 3 < 4 by decide), .d _, .d _, .d _, .d _, .d _, .d _, .d _, .d _, .d _, .d _, trivial⟩ ⟨⟨show 0 < 4 by decide, _, rfl, .vars ⟨.d _, .d _, .d _, .d _, .d _, .d _, trivial⟩⟩, ⟨show 1 < 4 by decide, _, rfl, .vars ⟨.d _, .d _, trivial⟩⟩, ⟨show 2 < 4 by decide, _, rfl, .lst _ _ _⟩, ⟨show 3 < 4 by decide, _, rfl, .mp _⟩, trivial⟩)
          have hh := Option.some.inj h
          subst hh
          refine NWp.opsE ⟨tab [(1, .ptr 0 0 0), (3, .ptr 1 0 0), (5, .loc 2 0 l57.length), (6, vi (IntKind.i64.wrap (i20 + (r28.length : Int)))), (7, .mref 3), (10, vi i21), (11, vl1 x27), (12, vl0 r28), (13, vi (IntKind.i64.wrap (i31 + 1))), (58, .d (eL none (eL none (D.int .u16)) r5.1.States)), (59, vi (r5.1.States.length : Int)), (60, vi i21), (80, vl4 a0.Rules), (81, vi (a0.Rules.length : Int)), (82, vi i32)], stab [(0, .var [vl1 a0.Init, vi 0, vi 0, vh 0, vl3 [], vl4 a0.Rules]), (1, .var [.d (eL none (eL none (D.int .u16)) r5.1.States), vl0 r5.1.Edges]), (2, .lst true none (List.map D.bool l57)), (3, .mp (eM (D.int .i64) D.bool z18))], 4⟩ ?_ ?_
          ·
           iterate 3 refine q1 _ ?_
           exact RunOps.nil' (nm [0, 1, 2, 3] ⟨.pt 0, .pt 1, .lc 2, .d _, .mref 3 (show 3 < 4 by decide), .d _, .d _, .d _, .d _, .d _, .d _, .d _, .d _, .d _, .d _, trivial⟩ ⟨⟨show 0 < 4 by decide, _, rfl, .vars ⟨.d _, .d _, .d _, .d _, .d _, .d _, trivial⟩⟩, ⟨show 1 < 4 by decide, _, rfl, .vars ⟨.d _, .d _, trivial⟩⟩, ⟨show 2 < 4 by decide, _, rfl, .lst _ _ _⟩, ⟨show 3 < 4 by decide, _, rfl, .mp _⟩, trivial⟩)
          exact And.intro rfl rfl
       ·
        intro r' hq
        subst hq
        exact Option.some.inj h
       rintro ⟨l58, y59⟩ rfl
       show NWp _ _ _ _ _ ⟨tab [(1, .ptr 0 0 0), (3, .ptr 1 0 0), (5, .loc 2 0 l58.length), (6, vi (IntKind.i64.wrap (i20 + (r28.length : Int)))), (7, .mref 3), (10, vi i21), (11, vl1 x27), (12, vl0 r28), (13, vi y59), (58, .d (eL none (eL none (D.int .u16)) r5.1.States)), (59, vi (r5.1.States.length : Int)), (60, vi i21), (80, vl4 a0.Rules), (81, vi (a0.Rules.length : Int)), (82, vi i32)], stab [(0, .var [vl1 a0.Init, vi 0, vi 0, vh 0, vl3 [], vl4 a0.Rules]), (1, .var [.d (eL none (eL none (D.int .u16)) r5.1.States), vl0 r5.1.Edges]), (2, .lst true none (List.map D.bool l58)), (3, .mp (eM (D.int .i64) D.bool z18))], 4⟩
       have hh := Option.some.inj h
       subst hh
       refine NWp.opsE ⟨tab [(1, .ptr 0 0 0), (3, .ptr 1 0 0), (5, .loc 2 0 l58.length), (6, vi (IntKind.i64.wrap (i20 + (r28.length : Int)))), (7, .mref 3), (10, vi i21), (11, vl1 x27), (12, vl0 r28), (13, vi y59), (58, .d (eL none (eL none (D.int .u16)) r5.1.States)), (59, vi (r5.1.States.length : Int)), (60, vi i21), (80, vl4 a0.Rules), (81, vi (a0.Rules.length : Int)), (82, vi (i32 + 1))], stab [(0, .var [vl1 a0.Init, vi 0, vi 0, vh 0, vl3 [], vl4 a0.Rules]), (1, .var [.d (eL none (eL none (D.int .u16)) r5.1.States), vl0 r5.1.Edges]), (2, .lst true none (List.map D.bool l58)), (3, .mp (eM (D.int .i64) D.bool z18))], 4⟩ ?_ ?_
       ·
        refine step (v := vi (i32 + 1)) (st_inc (inc_ok hinv35 hgo34 hB33) rfl rfl) ?_
        refine q1 _ ?_
        exact RunOps.nil' (nm [0, 1, 2, 3] ⟨.pt 0, .pt 1, .lc 2, .d _, .mref 3 (show 3 < 4 by decide), .d _, .d _, .d _, .d _, .d _, .d _, .d _, .d _, .d _, .d _, trivial⟩ ⟨⟨show 0 < 4 by decide, _, rfl, .vars ⟨.d _, .d _, .d _, .d _, .d _, .d _, trivial⟩⟩, ⟨show 1 < 4 by decide, _, rfl, .vars ⟨.d _, .d _, trivial⟩⟩, ⟨show 2 < 4 by decide, _, rfl, .lst _ _ _⟩, ⟨show 3 < 4 by decide, _, rfl, .mp _⟩, trivial⟩)
       exact And.intro rfl rfl
      ·
       rintro i32 ⟨l30, i31⟩ hinv35 hgo34
       show NWp _ _ _ _ _ ⟨tab [(1, .ptr 0 0 0), (3, .ptr 1 0 0), (5, .loc 2 0 l30.length), (6, vi (IntKind.i64.wrap (i20 + (r28.length : Int)))), (7, .mref 3), (10, vi i21), (11, vl1 x27), (12, vl0 r28), (13, vi i31), (58, .d (eL none (eL none (D.int .u16)) r5.1.States)), (59, vi (r5.1.States.length : Int)), (60, vi i21), (80, vl4 a0.Rules), (81, vi (a0.Rules.length : Int)), (82, vi i32)], stab [(0, .var [vl1 a0.Init, vi 0, vi 0, vh 0, vl3 [], vl4 a0.Rules]), (1, .var [.d (eL none (eL none (D.int .u16)) r5.1.States), vl0 r5.1.Edges]), (2, .lst true none (List.map D.bool l30)), (3, .mp (eM (D.int .i64) D.bool z18))], 4⟩
       have hc36 : ¬ (decide (i32 < (a0.Rules.length : Int)) = true) := fun hq => hgo34 (of_decide_eq_true hq)
       refine NWp.opsJ ⟨tab [(1, .ptr 0 0 0), (3, .ptr 1 0 0), (5, .loc 2 0 l30.length), (6, vi (IntKind.i64.wrap (i20 + (r28.length : Int)))), (7, .mref 3), (10, vi i21), (11, vl1 x27), (12, vl0 r28), (13, vi i31), (58, .d (eL none (eL none (D.int .u16)) r5.1.States)), (59, vi (r5.1.States.length : Int)), (60, vi i21), (80, vl4 a0.Rules), (81, vi (a0.Rules.length : Int)), (82, vi i32), (83, vb (decide (i32 < (a0.Rules.length : Int))))], stab [(0, .var [vl1 a0.Init, vi 0, vi 0, vh 0, vl3 [], vl4 a0.Rules]), (1, .var [.d (eL none (eL none (D.int .u16)) r5.1.States), vl0 r5.1.Edges]), (2, .lst true none (List.map D.bool l30)), (3, .mp (eM (D.int .i64) D.bool z18))], 4⟩ ?_ ?_
       ·
        refine q1 _ ?_
        exact RunOps.nil' (nm [0, 1, 2, 3] ⟨.pt 0, .pt 1, .lc 2, .d _, .mref 3 (show 3 < 4 by decide), .d _, .d _, .d _, .d _, .d _, .d _, .d _, .d _, .d _, .d _, .d _, trivial⟩ ⟨⟨show 0 < 4 by decide, _, rfl, .vars ⟨.d _, .d _, .d _, .d _, .d _, .d _, trivial⟩⟩, ⟨show 1 < 4 by decide, _, rfl, .vars ⟨.d _, .d _, trivial⟩⟩, ⟨show 2 < 4 by decide, _, rfl, .lst _ _ _⟩, ⟨show 3 < 4 by decide, _, rfl, .mp _⟩, trivial⟩)
       refine NWp.seq ?_
       refine NWp.condF (t := decide (i32 < (a0.Rules.length : Int))) rfl hc36 ?_
       refine NWp.norm (s0 := ⟨tab [(1, .ptr 0 0 0), (3, .ptr 1 0 0), (5, .loc 2 0 l30.length), (6, vi (IntKind.i64.wrap (i20 + (r28.length : Int)))), (7, .mref 3), (12, vl0 r28), (13, vi i31), (58, .d (eL none (eL none (D.int .u16)) r5.1.States)), (59, vi (r5.1.States.length : Int)), (60, vi i21)], stab [(0, .var [vl1 a0.Init, vi 0, vi 0, vh 0, vl3 [], vl4 a0.Rules]), (1, .var [.d (eL none (eL none (D.int .u16)) r5.1.States), vl0 r5.1.Edges]), (2, .lst true none (List.map D.bool l30)), (3, .mp (eM (D.int .i64) D.bool z18))], 4⟩) (nm [0, 1, 2, 3] ⟨.pt 0, .pt 1, .lc 2, .d _, .mref 3 (show 3 < 4 by decide), .d _, .d _, .d _, .d _, .d _, trivial⟩ ⟨⟨show 0 < 4 by decide, _, rfl, .vars ⟨.d _, .d _, .d _, .d _, .d _, .d _, trivial⟩⟩, ⟨show 1 < 4 by decide, _, rfl, .vars ⟨.d _, .d _, trivial⟩⟩, ⟨show 2 < 4 by decide, _, rfl, .lst _ _ _⟩, ⟨show 3 < 4 by decide, _, rfl, .mp _⟩, trivial⟩) ?_
       refine NWp.exit ?_
       exact And.intro rfl rfl
      ·
       intro r' hq
       subst hq
       exact Option.some.inj h
      rintro ⟨z61, z62⟩ rfl
      refine NWp.opsJ ⟨tab [(1, .ptr 0 0 0), (3, .ptr 1 0 0), (5, .loc 2 0 z61.length), (6, vi (IntKind.i64.wrap (i20 + (r28.length : Int)))), (7, .mref 3), (58, .d (eL none (eL none (D.int .u16)) r5.1.States)), (59, vi (r5.1.States.length : Int)), (60, vi i21), (148, vb (z62 != (r28.length : Int)))], stab [(0, .var [vl1 a0.Init, vi 0, vi 0, vh 0, vl3 [], vl4 a0.Rules]), (1, .var [.d (eL none (eL none (D.int .u16)) r5.1.States), vl0 r5.1.Edges]), (2, .lst true none (List.map D.bool z61)), (3, .mp (eM (D.int .i64) D.bool z18))], 4⟩ ?_ ?_
      ·
       iterate 2 refine q1 _ ?_
       refine step (v := vi (r28.length : Int)) (st_len (xs := r28) (e := eapi_Edge) rfl) ?_
       refine q1 _ ?_
       exact RunOps.nil' (nm [0, 1, 2, 3] ⟨.pt 0, .pt 1, .lc 2, .d _, .mref 3 (show 3 < 4 by decide), .d _, .d _, .d _, .d _, trivial⟩ ⟨⟨show 0 < 4 by decide, _, rfl, .vars ⟨.d _, .d _, .d _, .d _, .d _, .d _, trivial⟩⟩, ⟨show 1 < 4 by decide, _, rfl, .vars ⟨.d _, .d _, trivial⟩⟩, ⟨show 2 < 4 by decide, _, rfl, .lst _ _ _⟩, ⟨show 3 < 4 by decide, _, rfl, .mp _⟩, trivial⟩)
      by_cases hc63 : (z62 != (r28.length : Int)) = true
      ·
       replace h := iteT hc63 h
       refine NWp.condT (t := (z62 != (r28.length : Int))) rfl hc63 ?_
       refine NWp.opsJ ⟨tab [(2, vb false)], stab [], 0⟩ ?_ ?_
       ·
        refine q1 _ ?_
        exact nR []
       obtain ⟨r64, kr64, hr⟩ := mapE (o := some false) (g := Br.ret) h
       subst hr
       have h := kr64
       have hh := Option.some.inj h
       subst hh
       refine NWp.ret ?_
       refine And.intro (fun hn => nomatch hn) ?_
       intro hq
       have hq := hq.symm
       subst hq
       show FQ _ _ _ _
       exact FQ.mk1 (.inr rfl) (res_t (v := vb false) rfl rfl) (RV.d trivial)
      ·
       replace h := iteF hc63 h
       refine NWp.condF (t := (z62 != (r28.length : Int))) rfl hc63 ?_
       refine NWp.skip ?_
       have hh := Option.some.inj h
       subst hh
       refine NWp.opsE ⟨tab [(1, .ptr 0 0 0), (3, .ptr 1 0 0), (5, .loc 2 0 z61.length), (6, vi (IntKind.i64.wrap (i20 + (r28.length : Int)))), (7, .mref 3), (58, .d (eL none (eL none (D.int .u16)) r5.1.States)), (59, vi (r5.1.States.length : Int)), (60, vi (i21 + 1))], stab [(0, .var [vl1 a0.Init, vi 0, vi 0, vh 0, vl3 [], vl4 a0.Rules]), (1, .var [.d (eL none (eL none (D.int .u16)) r5.1.States), vl0 r5.1.Edges]), (2, .lst true none (List.map D.bool z61)), (3, .mp (eM (D.int .i64) D.bool z18))], 4⟩ ?_ ?_
       ·
        refine step (v := vi (i21 + 1)) (st_inc (inc_ok hinv24 hgo23 hB22) rfl rfl) ?_
        refine q1 _ ?_
        exact RunOps.nil' (nm [0, 1, 2, 3] ⟨.pt 0, .pt 1, .lc 2, .d _, .mref 3 (show 3 < 4 by decide), .d _, .d _, .d _, trivial⟩ ⟨⟨show 0 < 4 by decide, _, rfl, .vars ⟨.d _, .d _, .d _, .d _, .d _, .d _, trivial⟩⟩, ⟨show 1 < 4 by decide, _, rfl, .vars ⟨.d _, .d _, trivial⟩⟩, ⟨show 2 < 4 by decide, _, rfl, .lst _ _ _⟩, ⟨show 3 < 4 by decide, _, rfl, .mp _⟩, trivial⟩)
       exact And.intro rfl rfl
    ·
     rintro i21 ⟨l19, i20⟩ hinv24 hgo23
     show NWp _ _ _ _ _ ⟨tab [(1, .ptr 0 0 0), (3, .ptr 1 0 0), (5, .loc 2 0 l19.length), (6, vi i20), (7, .mref 3), (58, .d (eL none (eL none (D.int .u16)) r5.1.States)), (59, vi (r5.1.States.length : Int)), (60, vi i21)], stab [(0, .var [vl1 a0.Init, vi 0, vi 0, vh 0, vl3 [], vl4 a0.Rules]), (1, .var [.d (eL none (eL none (D.int .u16)) r5.1.States), vl0 r5.1.Edges]), (2, .lst true none (List.map D.bool l19)), (3, .mp (eM (D.int .i64) D.bool z18))], 4⟩
     have hc25 : ¬ (decide (i21 < (r5.1.States.length : Int)) = true) := fun hq => hgo23 (of_decide_eq_true hq)
     refine NWp.opsJ ⟨tab [(1, .ptr 0 0 0), (3, .ptr 1 0 0), (5, .loc 2 0 l19.length), (6, vi i20), (7, .mref 3), (58, .d (eL none (eL none (D.int .u16)) r5.1.States)), (59, vi (r5.1.States.length : Int)), (60, vi i21), (61, vb (decide (i21 < (r5.1.States.length : Int))))], stab [(0, .var [vl1 a0.Init, vi 0, vi 0, vh 0, vl3 [], vl4 a0.Rules]), (1, .var [.d (eL none (eL none (D.int .u16)) r5.1.States), vl0 r5.1.Edges]), (2, .lst true none (List.map D.bool l19)), (3, .mp (eM (D.int .i64) D.bool z18))], 4⟩ ?_ ?_
     ·
      refine q1 _ ?_
      exact RunOps.nil' (nm [0, 1, 2, 3] ⟨.pt 0, .pt 1, .lc 2, .d _, .mref 3 (show 3 < 4 by decide), .d _, .d _, .d _, .d _, trivial⟩ ⟨⟨show 0 < 4 by decide, _, rfl, .vars ⟨.d _, .d _, .d _, .d _, .d _, .d _, trivial⟩⟩, ⟨show 1 < 4 by decide, _, rfl, .vars ⟨.d _, .d _, trivial⟩⟩, ⟨show 2 < 4 by decide, _, rfl, .lst _ _ _⟩, ⟨show 3 < 4 by decide, _, rfl, .mp _⟩, trivial⟩)
     refine NWp.seq ?_
     refine NWp.condF (t := decide (i21 < (r5.1.States.length : Int))) rfl hc25 ?_
     refine NWp.norm (s0 := ⟨tab [(3, .ptr 0 0 0), (5, .loc 1 0 l19.length), (6, vi i20), (7, .mref 2)], stab [(0, .var [.d (eL none (eL none (D.int .u16)) r5.1.States), vl0 r5.1.Edges]), (1, .lst true none (List.map D.bool l19)), (2, .mp (eM (D.int .i64) D.bool z18))], 3⟩) (nm [1, 2, 3] ⟨.pt 0, .lc 1, .d _, .mref 2 (show 2 < 3 by decide), trivial⟩ ⟨⟨show 0 < 3 by decide, _, rfl, .vars ⟨.d _, .d _, trivial⟩⟩, ⟨show 1 < 3 by decide, _, rfl, .lst _ _ _⟩, ⟨show 2 < 3 by decide, _, rfl, .mp _⟩, trivial⟩) ?_
     refine NWp.exit ?_
     exact And.intro rfl rfl
    ·
     intro r' hq
     subst hq
     exact Option.some.inj h
    rintro ⟨z65, z66⟩ rfl
    refine NWp.seq ?_
    refine NWp.opsJ ⟨tab [(3, .ptr 0 0 0), (5, .loc 1 0 z65.length), (6, vi z66), (7, .mref 2), (151, vi (z65.length : Int)), (152, vi 0)], stab [(0, .var [.d (eL none (eL none (D.int .u16)) r5.1.States), vl0 r5.1.Edges]), (1, .lst true none (List.map D.bool z65)), (2, .mp (eM (D.int .i64) D.bool z18))], 3⟩ ?_ ?_
    ·
     iterate 3 refine q1 _ ?_
     exact RunOps.nil' (nm [0, 1, 2] ⟨.pt 0, .lc 1, .d _, .mref 2 (show 2 < 3 by decide), .d _, .d _, trivial⟩ ⟨⟨show 0 < 3 by decide, _, rfl, .vars ⟨.d _, .d _, trivial⟩⟩, ⟨show 1 < 3 by decide, _, rfl, .lst _ _ _⟩, ⟨show 2 < 3 by decide, _, rfl, .mp _⟩, trivial⟩)
    obtain ⟨q79, hl, h⟩ := bindE h
    refine NWp.block ?_
    refine loop_forR (cntU (z65.length : Int)) (fun (i67 : Int) (qq : Unit) => ⟨tab [(3, .ptr 0 0 0), (5, .loc 1 0 z65.length), (6, vi z66), (7, .mref 2), (151, vi (z65.length : Int)), (152, vi i67)], stab [(0, .var [.d (eL none (eL none (D.int .u16)) r5.1.States), vl0 r5.1.Edges]), (1, .lst true none (List.map D.bool z65)), (2, .mp (eM (D.int .i64) D.bool z18))], 3⟩) 6 (fun (qq : Unit) => ⟨tab [(3, .ptr 0 0 0), (6, vi z66), (7, .mref 1)], stab [(0, .var [.d (eL none (eL none (D.int .u16)) r5.1.States), vl0 r5.1.Edges]), (1, .mp (eM (D.int .i64) D.bool z18))], 2⟩) Low low_step (r := r) hl (by unfold Low; omega) ?_ ?_ ?_ ?_
    ·
     rintro i67 ⟨⟩ xr72 hinv70 hgo69 h
     show NWp _ _ _ _ _ ⟨tab [(3, .ptr 0 0 0), (5, .loc 1 0 z65.length), (6, vi z66), (7, .mref 2), (151, vi (z65.length : Int)), (152, vi i67)], stab [(0, .var [.d (eL none (eL none (D.int .u16)) r5.1.States), vl0 r5.1.Edges]), (1, .lst true none (List.map D.bool z65)), (2, .mp (eM (D.int .i64) D.bool z18))], 3⟩
     have hc71 : decide (i67 < (z65.length : Int)) = true := decide_eq_true hgo69
     refine NWp.opsJ ⟨tab [(3, .ptr 0 0 0), (5, .loc 1 0 z65.length), (6, vi z66), (7, .mref 2), (151, vi (z65.length : Int)), (152, vi i67), (153, vb (decide (i67 < (z65.length : Int))))], stab [(0, .var [.d (eL none (eL none (D.int .u16)) r5.1.States), vl0 r5.1.Edges]), (1, .lst true none (List.map D.bool z65)), (2, .mp (eM (D.int .i64) D.bool z18))], 3⟩ ?_ ?_
     ·
      refine q1 _ ?_
      exact RunOps.nil' (nm [0, 1, 2] ⟨.pt 0, .lc 1, .d _, .mref 2 (show 2 < 3 by decide), .d _, .d _, .d _, trivial⟩ ⟨⟨show 0 < 3 by decide, _, rfl, .vars ⟨.d _, .d _, trivial⟩⟩, ⟨show 1 < 3 by decide, _, rfl, .lst _ _ _⟩, ⟨show 2 < 3 by decide, _, rfl, .mp _⟩, trivial⟩)
     refine NWp.rng 151 rfl fun hB68 => ?_
     refine NWp.seq ?_
     refine NWp.condT (t := decide (i67 < (z65.length : Int))) rfl hc71 ?_
     refine NWp.skip ?_
     refine NWp.seq ?_
     refine NWp.block ?_
     refine NWp.opsJ ⟨tab [(3, .ptr 0 0 0), (5, .loc 1 0 z65.length), (6, vi z66), (7, .mref 2), (17, vi i67), (151, vi (z65.length : Int)), (152, vi i67)], stab [(0, .var [.d (eL none (eL none (D.int .u16)) r5.1.States), vl0 r5.1.Edges]), (1, .lst true none (List.map D.bool z65)), (2, .mp (eM (D.int .i64) D.bool z18))], 3⟩ ?_ ?_
     ·
      iterate 2 refine q1 _ ?_
      exact RunOps.nil' (nm [0, 1, 2] ⟨.pt 0, .lc 1, .d _, .mref 2 (show 2 < 3 by decide), .d _, .d _, .d _, trivial⟩ ⟨⟨show 0 < 3 by decide, _, rfl, .vars ⟨.d _, .d _, trivial⟩⟩, ⟨show 1 < 3 by decide, _, rfl, .lst _ _ _⟩, ⟨show 2 < 3 by decide, _, rfl, .mp _⟩, trivial⟩)
     obtain ⟨x73, hx73, h⟩ := bindE h
     refine NWp.opsJ ⟨tab [(3, .ptr 0 0 0), (5, .loc 1 0 z65.length), (6, vi z66), (7, .mref 2), (151, vi (z65.length : Int)), (152, vi i67), (161, vb (!(x73 == (decide (i67 > 0)))))], stab [(0, .var [.d (eL none (eL none (D.int .u16)) r5.1.States), vl0 r5.1.Edges]), (1, .lst true none (List.map D.bool z65)), (2, .mp (eM (D.int .i64) D.bool z18))], 3⟩ ?_ ?_
     ·
      iterate 2 refine q1 _ ?_
      refine step (v := .ptr 1 i67.toNat 0) (st_iaddrL (xs := z65) (e := D.bool) hx73 rfl rfl rfl rfl) ?_
      refine step (v := vb x73) (st_loadL (xs := z65) (e := D.bool) hx73 rfl rfl rfl) ?_
      iterate 3 refine q1 _ ?_
      exact RunOps.nil' (nm [0, 1, 2] ⟨.pt 0, .lc 1, .d _, .mref 2 (show 2 < 3 by decide), .d _, .d _, .d _, trivial⟩ ⟨⟨show 0 < 3 by decide, _, rfl, .vars ⟨.d _, .d _, trivial⟩⟩, ⟨show 1 < 3 by decide, _, rfl, .lst _ _ _⟩, ⟨show 2 < 3 by decide, _, rfl, .mp _⟩, trivial⟩)
     by_cases hc74 : (!(x73 == (decide (i67 > 0)))) = true
     ·
      replace h := iteT hc74 h
      refine NWp.condT (t := (!(x73 == (decide (i67 > 0))))) rfl hc74 ?_
      refine NWp.opsJ ⟨tab [(2, vb false)], stab [], 0⟩ ?_ ?_
      ·
       refine q1 _ ?_
       exact nR []
      obtain ⟨r75, kr75, hr⟩ := mapE (o := some false) (g := Br.ret) h
      subst hr
      have h := kr75
      have hh := Option.some.inj h
      subst hh
      refine NWp.ret ?_
      refine And.intro (fun hn => nomatch hn) ?_
      intro hq
      have hq := hq.symm
      subst hq
      show FQ _ _ _ _
      exact FQ.mk1 (.inr rfl) (res_t (v := vb false) rfl rfl) (RV.d trivial)
     ·
      replace h := iteF hc74 h
      refine NWp.condF (t := (!(x73 == (decide (i67 > 0))))) rfl hc74 ?_
      refine NWp.skip ?_
      have hh := Option.some.inj h
      subst hh
      refine NWp.opsE ⟨tab [(3, .ptr 0 0 0), (5, .loc 1 0 z65.length), (6, vi z66), (7, .mref 2), (151, vi (z65.length : Int)), (152, vi (i67 + 1))], stab [(0, .var [.d (eL none (eL none (D.int .u16)) r5.1.States), vl0 r5.1.Edges]), (1, .lst true none (List.map D.bool z65)), (2, .mp (eM (D.int .i64) D.bool z18))], 3⟩ ?_ ?_
      ·
       refine step (v := vi (i67 + 1)) (st_inc (inc_ok hinv70 hgo69 hB68) rfl rfl) ?_
       refine q1 _ ?_
       exact RunOps.nil' (nm [0, 1, 2] ⟨.pt 0, .lc 1, .d _, .mref 2 (show 2 < 3 by decide), .d _, .d _, trivial⟩ ⟨⟨show 0 < 3 by decide, _, rfl, .vars ⟨.d _, .d _, trivial⟩⟩, ⟨show 1 < 3 by decide, _, rfl, .lst _ _ _⟩, ⟨show 2 < 3 by decide, _, rfl, .mp _⟩, trivial⟩)
      exact And.intro rfl rfl
    ·
     rintro i67 ⟨⟩ hinv70 hgo69
     show NWp _ _ _ _ _ ⟨tab [(3, .ptr 0 0 0), (5, .loc 1 0 z65.length), (6, vi z66), (7, .mref 2), (151, vi (z65.length : Int)), (152, vi i67)], stab [(0, .var [.d (eL none (eL none (D.int .u16)) r5.1.States), vl0 r5.1.Edges]), (1, .lst true none (List.map D.bool z65)), (2, .mp (eM (D.int .i64) D.bool z18))], 3⟩
     have hc71 : ¬ (decide (i67 < (z65.length : Int)) = true) := fun hq => hgo69 (of_decide_eq_true hq)
     refine NWp.opsJ ⟨tab [(3, .ptr 0 0 0), (5, .loc 1 0 z65.length), (6, vi z66), (7, .mref 2), (151, vi (z65.length : Int)), (152, vi i67), (153, vb (decide (i67 < (z65.length : Int))))], stab [(0, .var [.d (eL none (eL none (D.int .u16)) r5.1.States), vl0 r5.1.Edges]), (1, .lst true none (List.map D.bool z65)), (2, .mp (eM (D.int .i64) D.bool z18))], 3⟩ ?_ ?_
     ·
      refine q1 _ ?_
      exact RunOps.nil' (nm [0, 1, 2] ⟨.pt 0, .lc 1, .d _, .mref 2 (show 2 < 3 by decide), .d _, .d _, .d _, trivial⟩ ⟨⟨show 0 < 3 by decide, _, rfl, .vars ⟨.d _, .d _, trivial⟩⟩, ⟨show 1 < 3 by decide, _, rfl, .lst _ _ _⟩, ⟨show 2 < 3 by decide, _, rfl, .mp _⟩, trivial⟩)
     refine NWp.seq ?_
     refine NWp.condF (t := decide (i67 < (z65.length : Int))) rfl hc71 ?_
     refine NWp.norm (s0 := ⟨tab [(3, .ptr 0 0 0), (6, vi z66), (7, .mref 1)], stab [(0, .var [.d (eL none (eL none (D.int .u16)) r5.1.States), vl0 r5.1.Edges]), (1, .mp (eM (D.int .i64) D.bool z18))], 2⟩) (nm [0, 2] ⟨.pt 0, .d _, .mref 1 (show 1 < 2 by decide), trivial⟩ ⟨⟨show 0 < 2 by decide, _, rfl, .vars ⟨.d _, .d _, trivial⟩⟩, ⟨show 1 < 2 by decide, _, rfl, .mp _⟩, trivial⟩) ?_
     refine NWp.exit ?_
     exact And.intro rfl rfl
    ·
     intro r' hq
     subst hq
     exact Option.some.inj h
    rintro ⟨⟩ rfl
    obtain ⟨y77, hv, h⟩ := bindE h
    refine NWp.opsJ ⟨tab [(2, vb y77)], stab [], 0⟩ ?_ ?_
    ·
     iterate 3 refine q1 _ ?_
     refine step (v := vi (r5.1.Edges.length : Int)) (st_len (xs := r5.1.Edges) (e := eapi_Edge) rfl) ?_
     iterate 2 refine q1 _ ?_
     by_cases hg75 : (z66 == (r5.1.Edges.length : Int)) = true
     ·
      replace hv := iteT hg75 hv
      obtain ⟨n76, hn76, hv⟩ := bindE hv
      refine qG _ hg75 ?_
      refine q1 _ ?_
      refine qG _ hg75 ?_
      refine step (v := vi n76) (st_eq (st_mlen rfl rfl (glen_le hn76).1) (by rw [(glen_le hn76).2])) ?_
      refine qG _ hg75 ?_
      refine q1 _ ?_
      refine step (v := vb (decide (n76 > 0))) (st_pickT (b := (z66 == (r5.1.Edges.length : Int))) rfl hg75 rfl) ?_
      refine q1 _ ?_
      have hh := Option.some.inj hv
      subst hh
      exact nR []
     ·
      replace hv := iteF hg75 hv
      iterate 3 refine qX _ hg75 ?_
      refine step (v := vb false) (st_pickF (b := (z66 == (r5.1.Edges.length : Int))) rfl hg75 rfl) ?_
      refine q1 _ ?_
      have hh := Option.some.inj hv
      subst hh
      exact nR []
    have hh := Option.some.inj h
    subst hh
    refine NWp.ret ?_
    show FQ _ _ _ _
    exact FQ.mk1 (.inr rfl) (res_t (v := vb y77) rfl rfl) (RV.d trivial)


end Go.AM
