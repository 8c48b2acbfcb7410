import Derived.Test.YtkgegocfjalcbaaSpW1
/-  What they are in the program: walks. -/
set_option linter.unusedVariables false
set_option linter.unusedSimpArgs false
namespace Go.AM
open Go Go.RowKit Go.Proofs

attribute [local irreducible] RunOps RunOpsL

theorem c_ref11_Goes {a0 : api_Rule} {a1 : (List Int)} {r : Bool} (h : ref11_Goes a0 a1 = some r) : PCall Try.prog 29 [eapi_Rule a0, eL none (D.int .u16) a1] (.bool r) := by
 refine PCall.introN ok29 (show 2 ≤ 39 by decide) ?_
 refine NWp.norm (s0 := ⟨tab [(0, vs4 a0), (1, vl1 a1)], stab [], 0⟩) (nr []) ?_
 refine NWp.opsJ ⟨tab [(1, vl1 a1), (2, vp3 a0)], stab [], 0⟩ ?_ ?_
 ·
  iterate 2 refine q1 _ ?_
  exact nR []
 refine NWp.seq ?_
 refine NWp.opsJ ⟨tab [(1, vl1 a1), (2, vp3 a0), (5, vi 0)], stab [], 0⟩ ?_ ?_
 ·
  refine q1 _ ?_
  exact nR []
 obtain ⟨q14, hl, h⟩ := bindE h
 refine NWp.block ?_
 refine loop_forR (cntU (a0.Guard.length : Int)) (fun (i1 : Int) (qq : Unit) => ⟨tab [(1, vl1 a1), (2, vp3 a0), (5, vi i1)], stab [], 0⟩) 0 (fun (qq : Unit) => ⟨tab [], stab [], 0⟩) Low low_step (r := r) hl (by unfold Low; omega) ?_ ?_ ?_ ?_
 ·
  rintro i1 ⟨⟩ xr6 hinv4 hgo3 h
  show NWp _ _ _ _ _ ⟨tab [(1, vl1 a1), (2, vp3 a0), (5, vi i1)], stab [], 0⟩
  have hc5 : decide (i1 < (a0.Guard.length : Int)) = true := decide_eq_true hgo3
  refine NWp.seq ?_
  refine NWp.opsJ ⟨tab [(1, vl1 a1), (2, vp3 a0), (5, vi i1), (10, vi (a0.Guard.length : Int)), (11, vb (decide (i1 < (a0.Guard.length : Int))))], stab [], 0⟩ ?_ ?_
  ·
   iterate 3 refine q1 _ ?_
   refine step (v := vi (a0.Guard.length : Int)) (st_len (xs := a0.Guard) (e := eapi_Pair) rfl) ?_
   refine q1 _ ?_
   exact nR []
  refine NWp.rng 10 rfl fun hB2 => ?_
  refine NWp.condT (t := decide (i1 < (a0.Guard.length : Int))) rfl hc5 ?_
  refine NWp.skip ?_
  refine NWp.seq ?_
  refine NWp.block ?_
  obtain ⟨x7, hx7, h⟩ := bindE h
  refine NWp.opsJ ⟨tab [(1, vl1 a1), (2, vp3 a0), (5, vi i1), (6, .ptr 0 0 0)], stab [(0, .var [vi x7.F, vh x7.N])], 1⟩ ?_ ?_
  ·
   iterate 3 refine q1 _ ?_
   refine step (v := vp4 x7) (st_iaddr (xs := a0.Guard) (e := eapi_Pair) hx7 rfl rfl) ?_
   refine q1 _ ?_
   refine step (v := .ptr 0 0 0) (σ' := (upd (stab []) 0 (some (.var [vi 0, vh 0])))) (n' := 1) rfl ?_
   refine step (v := V.undef) (σ' := (upd (upd (stab []) 0 (some (.var [vi 0, vh 0]))) 0 (some (.var [vi x7.F, vh x7.N])))) (n' := 1) rfl ?_
   exact nR [0]
  obtain ⟨y11, hv, h⟩ := bindE h
  refine NWp.opsJ ⟨tab [(1, vl1 a1), (2, vp3 a0), (5, vi i1), (38, vb y11)], stab [], 0⟩ ?_ ?_
  ·
   iterate 4 refine q1 _ ?_
   by_cases hg8 : decide (x7.F < 0) = true
   ·
    replace hv := iteT hg8 hv
    iterate 5 refine qX (decide (x7.F < 0)) (by rw [hg8]; decide) ?_
    refine step (v := vb true) (st_pickT (b := decide (x7.F < 0)) rfl hg8 rfl) ?_
    refine q1 _ ?_
    iterate 8 refine qX true (by decide) ?_
    refine step (v := vb true) (st_pickT (b := true) rfl rfl rfl) ?_
    have hh := Option.some.inj hv
    subst hh
    exact nR []
   ·
    replace hv := iteF hg8 hv
    refine qG (decide (x7.F < 0)) (Bool.eq_false_iff.2 hg8) ?_
    refine q1 _ ?_
    refine qG (decide (x7.F < 0)) (Bool.eq_false_iff.2 hg8) ?_
    refine q1 _ ?_
    refine qG (decide (x7.F < 0)) (Bool.eq_false_iff.2 hg8) ?_
    refine q1 _ ?_
    refine qG (decide (x7.F < 0)) (Bool.eq_false_iff.2 hg8) ?_
    refine step (v := vi (a1.length : Int)) (st_len (xs := a1) (e := (D.int .u16)) rfl) ?_
    refine qG (decide (x7.F < 0)) (Bool.eq_false_iff.2 hg8) ?_
    refine q1 _ ?_
    refine step (v := vb (decide (x7.F ≥ (a1.length : Int)))) (st_pickF (b := decide (x7.F < 0)) rfl hg8 rfl) ?_
    refine q1 _ ?_
    by_cases hg9 : decide (x7.F ≥ (a1.length : Int)) = true
    ·
     replace hv := iteT hg9 hv
     iterate 8 refine qX (decide (x7.F ≥ (a1.length : Int))) (by rw [hg9]; decide) ?_
     refine step (v := vb true) (st_pickT (b := decide (x7.F ≥ (a1.length : Int))) rfl hg9 rfl) ?_
     have hh := Option.some.inj hv
     subst hh
     exact nR []
    ·
     replace hv := iteF hg9 hv
     obtain ⟨x10, hx10, hv⟩ := bindE hv
     refine qG (decide (x7.F ≥ (a1.length : Int))) (Bool.eq_false_iff.2 hg9) ?_
     refine q1 _ ?_
     refine qG (decide (x7.F ≥ (a1.length : Int))) (Bool.eq_false_iff.2 hg9) ?_
     refine q1 _ ?_
     refine qG (decide (x7.F ≥ (a1.length : Int))) (Bool.eq_false_iff.2 hg9) ?_
     refine q1 _ ?_
     refine qG (decide (x7.F ≥ (a1.length : Int))) (Bool.eq_false_iff.2 hg9) ?_
     refine step (v := .d (.cptr none (.int .u16 x10) 0)) (st_iaddr (xs := a1) (e := (D.int .u16)) hx10 rfl rfl) ?_
     refine qG (decide (x7.F ≥ (a1.length : Int))) (Bool.eq_false_iff.2 hg9) ?_
     refine q1 _ ?_
     refine qG (decide (x7.F ≥ (a1.length : Int))) (Bool.eq_false_iff.2 hg9) ?_
     refine q1 _ ?_
     refine qG (decide (x7.F ≥ (a1.length : Int))) (Bool.eq_false_iff.2 hg9) ?_
     refine q1 _ ?_
     refine qG (decide (x7.F ≥ (a1.length : Int))) (Bool.eq_false_iff.2 hg9) ?_
     refine q1 _ ?_
     refine step (v := vb (x10 != x7.N)) (st_pickF (b := decide (x7.F ≥ (a1.length : Int))) rfl hg9 rfl) ?_
     have hh := Option.some.inj hv
     subst hh
     exact nR []
  by_cases hc13 : y11 = true
  ·
   replace h := iteT hc13 h
   refine NWp.condT (t := y11) rfl hc13 ?_
   refine NWp.opsJ ⟨tab [(4, vb false)], stab [], 0⟩ ?_ ?_
   ·
    refine q1 _ ?_
    exact nR []
   obtain ⟨r14, kr14, hr⟩ := mapE (o := some false) (g := Br.ret) h
   subst hr
   have h := kr14
   have hh := Option.some.inj h
   subst hh
   refine NWp.ret ?_
   refine And.intro (fun hn => nomatch hn) ?_
   intro hq
   have hq := hq.symm
   subst hq
   show FQ _ _ _ _
   exact FQ.mk1 (.inr rfl) (res_t (v := vb false) rfl rfl) (RV.d trivial)
  ·
   replace h := iteF hc13 h
   refine NWp.condF (t := y11) rfl hc13 ?_
   refine NWp.skip ?_
   have hh := Option.some.inj h
   subst hh
   refine NWp.opsE ⟨tab [(1, vl1 a1), (2, vp3 a0), (5, vi (i1 + 1))], stab [], 0⟩ ?_ ?_
   ·
    refine q1 _ ?_
    refine step (v := vi (i1 + 1)) (st_inc (inc_ok hinv4 hgo3 hB2) rfl rfl) ?_
    refine q1 _ ?_
    exact nR []
   exact And.intro rfl rfl
 ·
  rintro i1 ⟨⟩ hinv4 hgo3
  show NWp _ _ _ _ _ ⟨tab [(1, vl1 a1), (2, vp3 a0), (5, vi i1)], stab [], 0⟩
  have hc5 : ¬ (decide (i1 < (a0.Guard.length : Int)) = true) := fun hq => hgo3 (of_decide_eq_true hq)
  refine NWp.seq ?_
  refine NWp.opsJ ⟨tab [(1, vl1 a1), (2, vp3 a0), (5, vi i1), (11, vb (decide (i1 < (a0.Guard.length : Int))))], stab [], 0⟩ ?_ ?_
  ·
   iterate 3 refine q1 _ ?_
   refine step (v := vi (a0.Guard.length : Int)) (st_len (xs := a0.Guard) (e := eapi_Pair) rfl) ?_
   refine q1 _ ?_
   exact nR []
  refine NWp.condF (t := decide (i1 < (a0.Guard.length : Int))) rfl hc5 ?_
  refine NWp.norm (s0 := ⟨tab [], stab [], 0⟩) (nr []) ?_
  refine NWp.exit ?_
  exact And.intro rfl rfl
 ·
  intro r' hq
  subst hq
  exact Option.some.inj h
 rintro ⟨⟩ rfl
 refine NWp.opsJ ⟨tab [(4, vb true)], stab [], 0⟩ ?_ ?_
 ·
  refine q1 _ ?_
  exact nR []
 have hh := Option.some.inj h
 subst hh
 refine NWp.ret ?_
 show FQ _ _ _ _
 exact FQ.mk1 (.inr rfl) (res_t (v := vb true) rfl rfl) (RV.d trivial)

theorem c_ref11_After {a0 : api_Rule} {a1 : (List Int)} {r : (List Int)} (h : ref11_After a0 a1 = some r) : PCall Try.prog 32 [eapi_Rule a0, eL none (D.int .u16) a1] (eL none (D.int .u16) r) := by
 refine PCall.introN ok32 (show 2 ≤ 40 by decide) ?_
 refine NWp.norm (s0 := ⟨tab [(0, vs4 a0), (1, vl1 a1)], stab [], 0⟩) (nr []) ?_
 refine NWp.opsJ ⟨tab [(1, vl1 a1), (2, vp3 a0)], stab [], 0⟩ ?_ ?_
 ·
  iterate 2 refine q1 _ ?_
  exact nR []
 obtain ⟨l1, hl1, h⟩ := bindE h
 refine NWp.opsJ ⟨tab [(2, vp3 a0), (5, .loc 0 0 l1.length)], stab [(0, .lst true none (List.map (D.int .u16) l1))], 1⟩ ?_ ?_
 ·
  refine step (v := .loc 0 0 (([] : List Int).length)) (σ' := (upd (stab []) 0 (some (.lst true none (List.map (D.int .u16) ([] : List Int)))))) (n' := 1) rfl ?_
  refine q1 _ ?_
  refine step (v := .loc 1 0 l1.length) (σ' := (upd (upd (upd (stab []) 0 (some (.lst true none (List.map (D.int .u16) ([] : List Int))))) 0 none) 1 (some (.lst true none (List.map (D.int .u16) l1))))) (n' := 2) (st_app (xs := ([] : List Int)) (ys := a1) (e := (D.int .u16)) hl1 rfl rfl rfl (src_v (xs := a1) (e := (D.int .u16)) rfl)) ?_
  refine q1 _ ?_
  exact nR [1]
 refine NWp.seq ?_
 refine NWp.opsJ ⟨tab [(2, vp3 a0), (5, .loc 0 0 l1.length), (6, vi 0)], stab [(0, .lst true none (List.map (D.int .u16) l1))], 1⟩ ?_ ?_
 ·
  refine q1 _ ?_
  exact nR [0]
 obtain ⟨z16, hl, h⟩ := bindE h
 refine NWp.block ?_
 refine loop_forO (cntU (a0.Then.length : Int)) (fun (i3 : Int) (qq : (List Int)) => ⟨tab [(2, vp3 a0), (5, .loc 0 0 qq.length), (6, vi i3)], stab [(0, .lst true none (List.map (D.int .u16) qq))], 1⟩) 0 (fun (qq : (List Int)) => ⟨tab [(5, .loc 0 0 qq.length)], stab [(0, .lst true none (List.map (D.int .u16) qq))], 1⟩) Low low_step hl (by unfold Low; omega) ?_ ?_ ?_
 ·
  rintro i3 l2 xr8 hinv6 hgo5 h
  show NWp _ _ _ _ _ ⟨tab [(2, vp3 a0), (5, .loc 0 0 l2.length), (6, vi i3)], stab [(0, .lst true none (List.map (D.int .u16) l2))], 1⟩
  have hc7 : decide (i3 < (a0.Then.length : Int)) = true := decide_eq_true hgo5
  refine NWp.seq ?_
  refine NWp.opsJ ⟨tab [(2, vp3 a0), (5, .loc 0 0 l2.length), (6, vi i3), (14, vi (a0.Then.length : Int)), (15, vb (decide (i3 < (a0.Then.length : Int))))], stab [(0, .lst true none (List.map (D.int .u16) l2))], 1⟩ ?_ ?_
  ·
   iterate 3 refine q1 _ ?_
   refine step (v := vi (a0.Then.length : Int)) (st_len (xs := a0.Then) (e := eapi_Pair) rfl) ?_
   refine q1 _ ?_
   exact nR [0]
  refine NWp.rng 14 rfl fun hB4 => ?_
  refine NWp.condT (t := decide (i3 < (a0.Then.length : Int))) rfl hc7 ?_
  refine NWp.skip ?_
  obtain ⟨l14, hv, h⟩ := bindE h
  refine NWp.seqN ⟨tab [(2, vp3 a0), (5, .loc 0 0 l14.length), (6, vi i3)], stab [(0, .lst true none (List.map (D.int .u16) l14))], 1⟩ ?_ ?_
  ·
   replace h := hv
   refine NWp.block ?_
   obtain ⟨x9, hx9, h⟩ := bindE h
   refine NWp.opsJ ⟨tab [(2, vp3 a0), (5, .loc 0 0 l2.length), (6, vi i3), (7, .ptr 1 0 0)], stab [(0, .lst true none (List.map (D.int .u16) l2)), (1, .var [vi x9.F, vh x9.N])], 2⟩ ?_ ?_
   ·
    iterate 3 refine q1 _ ?_
    refine step (v := vp4 x9) (st_iaddr (xs := a0.Then) (e := eapi_Pair) hx9 rfl rfl) ?_
    refine q1 _ ?_
    refine step (v := .ptr 1 0 0) (σ' := (upd (stab [(0, .lst true none (List.map (D.int .u16) l2))]) 1 (some (.var [vi 0, vh 0])))) (n' := 2) rfl ?_
    refine step (v := V.undef) (σ' := (upd (upd (stab [(0, .lst true none (List.map (D.int .u16) l2))]) 1 (some (.var [vi 0, vh 0]))) 1 (some (.var [vi x9.F, vh x9.N])))) (n' := 2) rfl ?_
    exact nR [0, 1]
   refine NWp.opsJ ⟨tab [(2, vp3 a0), (5, .loc 0 0 l2.length), (6, vi i3), (7, .ptr 1 0 0), (32, vb ((decide (x9.F ≥ 0)) && (decide (x9.F < (l2.length : Int)))))], stab [(0, .lst true none (List.map (D.int .u16) l2)), (1, .var [vi x9.F, vh x9.N])], 2⟩ ?_ ?_
   ·
    iterate 4 refine q1 _ ?_
    by_cases hg10 : decide (x9.F ≥ 0) = true
    ·
     refine qG _ hg10 ?_
     refine q1 _ ?_
     refine qG _ hg10 ?_
     refine q1 _ ?_
     refine qG _ hg10 ?_
     refine q1 _ ?_
     refine qG _ hg10 ?_
     refine q1 _ ?_
     refine qG _ hg10 ?_
     refine q1 _ ?_
     refine step (v := vb (decide (x9.F < (l2.length : Int)))) (st_pickT (b := decide (x9.F ≥ 0)) rfl hg10 rfl) ?_
     exact RunOps.nil' (nm [0, 1] ⟨.d _, .lc 0, .d _, .pt 1, .eq (by first | (simp [hg10]; done) | (simp_all; done) | grind), trivial⟩ ⟨⟨show 0 < 2 by decide, _, rfl, .lst _ _ _⟩, ⟨show 1 < 2 by decide, _, rfl, .vars ⟨.d _, .d _, trivial⟩⟩, trivial⟩)
    ·
     iterate 5 refine qX _ hg10 ?_
     refine step (v := vb false) (st_pickF (b := decide (x9.F ≥ 0)) rfl hg10 rfl) ?_
     exact RunOps.nil' (nm [0, 1] ⟨.d _, .lc 0, .d _, .pt 1, .eq (by first | (simp [hg10]; done) | (simp_all; done) | grind), trivial⟩ ⟨⟨show 0 < 2 by decide, _, rfl, .lst _ _ _⟩, ⟨show 1 < 2 by decide, _, rfl, .vars ⟨.d _, .d _, trivial⟩⟩, trivial⟩)
   by_cases hc11 : ((decide (x9.F ≥ 0)) && (decide (x9.F < (l2.length : Int)))) = true
   ·
    replace h := iteT hc11 h
    refine NWp.condT (t := ((decide (x9.F ≥ 0)) && (decide (x9.F < (l2.length : Int))))) rfl hc11 ?_
    obtain ⟨x12, hx12, h⟩ := bindE h
    obtain ⟨l13, hl13, h⟩ := bindE h
    have hh := Option.some.inj h
    subst hh
    refine NWp.opsE ⟨tab [(2, vp3 a0), (5, .loc 0 0 l13.length), (6, vi i3)], stab [(0, .lst true none (List.map (D.int .u16) l13))], 1⟩ ?_ ?_
    ·
     iterate 5 refine q1 _ ?_
     refine step (v := .ptr 0 x9.F.toNat 0) (st_iaddrL (xs := l2) (e := (D.int .u16)) hx12 rfl rfl rfl rfl) ?_
     refine step (v := V.undef) (σ' := (upd (stab [(0, .lst true none (List.map (D.int .u16) l2)), (1, .var [vi x9.F, vh x9.N])]) 0 (some (.lst true none (List.map (D.int .u16) l13))))) (n' := 2) (st_storeL' (e := (D.int .u16)) (v' := x9.N) hl13 rfl rfl rfl rfl rfl) ?_
     exact RunOps.nil' (nm [0] ⟨.d _, .le (id := 0) (gput_len hl13).symm (show 0 < 1 by decide), .d _, trivial⟩ ⟨⟨show 0 < 1 by decide, _, rfl, .lst _ _ _⟩, trivial⟩)
    exact And.intro rfl rfl
   ·
    replace h := iteF hc11 h
    refine NWp.condF (t := ((decide (x9.F ≥ 0)) && (decide (x9.F < (l2.length : Int))))) rfl hc11 ?_
    have hh := Option.some.inj h
    subst hh
    refine NWp.norm (s0 := ⟨tab [(2, vp3 a0), (5, .loc 0 0 l2.length), (6, vi i3)], stab [(0, .lst true none (List.map (D.int .u16) l2))], 1⟩) (nr [0]) ?_
    refine NWp.skip ?_
    exact And.intro rfl rfl
  have hh := Option.some.inj h
  subst hh
  refine NWp.opsE ⟨tab [(2, vp3 a0), (5, .loc 0 0 l14.length), (6, vi (i3 + 1))], stab [(0, .lst true none (List.map (D.int .u16) l14))], 1⟩ ?_ ?_
  ·
   refine q1 _ ?_
   refine step (v := vi (i3 + 1)) (st_inc (inc_ok hinv6 hgo5 hB4) rfl rfl) ?_
   refine q1 _ ?_
   exact nR [0]
  exact And.intro rfl rfl
 ·
  rintro i3 l2 hinv6 hgo5
  show NWp _ _ _ _ _ ⟨tab [(2, vp3 a0), (5, .loc 0 0 l2.length), (6, vi i3)], stab [(0, .lst true none (List.map (D.int .u16) l2))], 1⟩
  have hc7 : ¬ (decide (i3 < (a0.Then.length : Int)) = true) := fun hq => hgo5 (of_decide_eq_true hq)
  refine NWp.seq ?_
  refine NWp.opsJ ⟨tab [(2, vp3 a0), (5, .loc 0 0 l2.length), (6, vi i3), (15, vb (decide (i3 < (a0.Then.length : Int))))], stab [(0, .lst true none (List.map (D.int .u16) l2))], 1⟩ ?_ ?_
  ·
   iterate 3 refine q1 _ ?_
   refine step (v := vi (a0.Then.length : Int)) (st_len (xs := a0.Then) (e := eapi_Pair) rfl) ?_
   refine q1 _ ?_
   exact nR [0]
  refine NWp.condF (t := decide (i3 < (a0.Then.length : Int))) rfl hc7 ?_
  refine NWp.norm (s0 := ⟨tab [(5, .loc 0 0 l2.length)], stab [(0, .lst true none (List.map (D.int .u16) l2))], 1⟩) (nr [0]) ?_
  refine NWp.exit ?_
  exact And.intro rfl rfl
 refine NWp.opsJ ⟨tab [(4, .loc 0 0 z16.length)], stab [(0, .lst true none (List.map (D.int .u16) z16))], 1⟩ ?_ ?_
 ·
  iterate 2 refine q1 _ ?_
  exact nR [0]
 have hh := Option.some.inj h
 subst hh
 refine NWp.ret ?_
 show FQ _ _ _ _
 exact FQ.mk1 (.inr rfl) (res_t (v := .loc 0 0 z16.length) rfl rfl) (RV.loc (xs := z16) (e := (D.int .u16)) rfl rfl trivial)

theorem c_ref11_Same {a0 : (List Int)} {a1 : (List Int)} {r : Bool} (h : ref11_Same a0 a1 = some r) : PCall Try.prog 30 [eL none (D.int .u16) a0, eL none (D.int .u16) a1] (.bool r) := by
 refine PCall.introN ok30 (show 2 ≤ 26 by decide) ?_
 refine NWp.norm (s0 := ⟨tab [(0, vl1 a0), (1, vl1 a1)], stab [], 0⟩) (nr []) ?_
 refine NWp.opsJ ⟨tab [(0, vl1 a0), (1, vl1 a1)], stab [], 0⟩ ?_ ?_
 ·
  refine q1 _ ?_
  exact nR []
 refine NWp.seq ?_
 refine NWp.opsJ ⟨tab [(0, vl1 a0), (1, vl1 a1), (10, vb ((a0.length : Int) != (a1.length : Int)))], stab [], 0⟩ ?_ ?_
 ·
  refine q1 _ ?_
  refine step (v := vi (a0.length : Int)) (st_len (xs := a0) (e := (D.int .u16)) rfl) ?_
  refine q1 _ ?_
  refine step (v := vi (a1.length : Int)) (st_len (xs := a1) (e := (D.int .u16)) rfl) ?_
  refine q1 _ ?_
  exact nR []
 by_cases hc1 : ((a0.length : Int) != (a1.length : Int)) = true
 ·
  replace h := iteT hc1 h
  refine NWp.condT (t := ((a0.length : Int) != (a1.length : Int))) rfl hc1 ?_
  refine NWp.opsJ ⟨tab [(4, vb false)], stab [], 0⟩ ?_ ?_
  ·
   refine q1 _ ?_
   exact nR []
  have hh := Option.some.inj h
  subst hh
  refine NWp.ret ?_
  show FQ _ _ _ _
  exact FQ.mk1 (.inr rfl) (res_t (v := vb false) rfl rfl) (RV.d trivial)
 ·
  replace h := iteF hc1 h
  refine NWp.condF (t := ((a0.length : Int) != (a1.length : Int))) rfl hc1 ?_
  refine NWp.skip ?_
  refine NWp.seq ?_
  refine NWp.opsJ ⟨tab [(0, vl1 a0), (1, vl1 a1), (5, vi 0)], stab [], 0⟩ ?_ ?_
  ·
   refine q1 _ ?_
   exact nR []
  obtain ⟨q11, hl, h⟩ := bindE h
  refine NWp.block ?_
  refine loop_forR (cntU (a0.length : Int)) (fun (i2 : Int) (qq : Unit) => ⟨tab [(0, vl1 a0), (1, vl1 a1), (5, vi i2)], stab [], 0⟩) 0 (fun (qq : Unit) => ⟨tab [], stab [], 0⟩) Low low_step (r := r) hl (by unfold Low; omega) ?_ ?_ ?_ ?_
  ·
   rintro i2 ⟨⟩ xr7 hinv5 hgo4 h
   show NWp _ _ _ _ _ ⟨tab [(0, vl1 a0), (1, vl1 a1), (5, vi i2)], stab [], 0⟩
   have hc6 : decide (i2 < (a0.length : Int)) = true := decide_eq_true hgo4
   refine NWp.seq ?_
   refine NWp.opsJ ⟨tab [(0, vl1 a0), (1, vl1 a1), (5, vi i2), (13, vi (a0.length : Int)), (14, vb (decide (i2 < (a0.length : Int))))], stab [], 0⟩ ?_ ?_
   ·
    iterate 2 refine q1 _ ?_
    refine step (v := vi (a0.length : Int)) (st_len (xs := a0) (e := (D.int .u16)) rfl) ?_
    refine q1 _ ?_
    exact nR []
   refine NWp.rng 13 rfl fun hB3 => ?_
   refine NWp.condT (t := decide (i2 < (a0.length : Int))) rfl hc6 ?_
   refine NWp.skip ?_
   refine NWp.seq ?_
   refine NWp.block ?_
   obtain ⟨x8, hx8, h⟩ := bindE h
   obtain ⟨x9, hx9, h⟩ := bindE h
   refine NWp.opsJ ⟨tab [(0, vl1 a0), (1, vl1 a1), (5, vi i2), (25, vb (x8 != x9))], stab [], 0⟩ ?_ ?_
   ·
    iterate 2 refine q1 _ ?_
    refine step (v := .d (.cptr none (.int .u16 x8) 0)) (st_iaddr (xs := a0) (e := (D.int .u16)) hx8 rfl rfl) ?_
    iterate 3 refine q1 _ ?_
    refine step (v := .d (.cptr none (.int .u16 x9) 0)) (st_iaddr (xs := a1) (e := (D.int .u16)) hx9 rfl rfl) ?_
    iterate 2 refine q1 _ ?_
    exact nR []
   by_cases hc10 : (x8 != x9) = true
   ·
    replace h := iteT hc10 h
    refine NWp.condT (t := (x8 != x9)) rfl hc10 ?_
    refine NWp.opsJ ⟨tab [(4, vb false)], stab [], 0⟩ ?_ ?_
    ·
     refine q1 _ ?_
     exact nR []
    obtain ⟨r11, kr11, hr⟩ := mapE (o := some false) (g := Br.ret) h
    subst hr
    have h := kr11
    have hh := Option.some.inj h
    subst hh
    refine NWp.ret ?_
    refine And.intro (fun hn => nomatch hn) ?_
    intro hq
    have hq := hq.symm
    subst hq
    show FQ _ _ _ _
    exact FQ.mk1 (.inr rfl) (res_t (v := vb false) rfl rfl) (RV.d trivial)
   ·
    replace h := iteF hc10 h
    refine NWp.condF (t := (x8 != x9)) rfl hc10 ?_
    refine NWp.skip ?_
    have hh := Option.some.inj h
    subst hh
    refine NWp.opsE ⟨tab [(0, vl1 a0), (1, vl1 a1), (5, vi (i2 + 1))], stab [], 0⟩ ?_ ?_
    ·
     refine q1 _ ?_
     refine step (v := vi (i2 + 1)) (st_inc (inc_ok hinv5 hgo4 hB3) rfl rfl) ?_
     refine q1 _ ?_
     exact nR []
    exact And.intro rfl rfl
  ·
   rintro i2 ⟨⟩ hinv5 hgo4
   show NWp _ _ _ _ _ ⟨tab [(0, vl1 a0), (1, vl1 a1), (5, vi i2)], stab [], 0⟩
   have hc6 : ¬ (decide (i2 < (a0.length : Int)) = true) := fun hq => hgo4 (of_decide_eq_true hq)
   refine NWp.seq ?_
   refine NWp.opsJ ⟨tab [(0, vl1 a0), (1, vl1 a1), (5, vi i2), (14, vb (decide (i2 < (a0.length : Int))))], stab [], 0⟩ ?_ ?_
   ·
    iterate 2 refine q1 _ ?_
    refine step (v := vi (a0.length : Int)) (st_len (xs := a0) (e := (D.int .u16)) rfl) ?_
    refine q1 _ ?_
    exact nR []
   refine NWp.condF (t := decide (i2 < (a0.length : Int))) rfl hc6 ?_
   refine NWp.norm (s0 := ⟨tab [], stab [], 0⟩) (nr []) ?_
   refine NWp.exit ?_
   exact And.intro rfl rfl
  ·
   intro r' hq
   subst hq
   exact Option.some.inj h
  rintro ⟨⟩ rfl
  refine NWp.opsJ ⟨tab [(4, vb true)], stab [], 0⟩ ?_ ?_
  ·
   refine q1 _ ?_
   exact nR []
  have hh := Option.some.inj h
  subst hh
  refine NWp.ret ?_
  show FQ _ _ _ _
  exact FQ.mk1 (.inr rfl) (res_t (v := vb true) rfl rfl) (RV.d trivial)

theorem c_law11_SpaceRules {a0 : api_Rule} {a1 : (List Int)} {r : Bool} (h : law11_SpaceRules a0 a1 = some r) : PCall Try.prog 7 [eapi_Rule a0, eL none (D.int .u16) a1] (.bool r) := by
 refine PCall.introN ok7 (show 2 ≤ 47 by decide) ?_
 refine NWp.norm (s0 := ⟨tab [(0, vs4 a0), (1, vl1 a1)], stab [], 0⟩) (nr []) ?_
 refine NWp.opsJ ⟨tab [(1, vl1 a1), (2, vp3 a0)], stab [], 0⟩ ?_ ?_
 ·
  iterate 2 refine q1 _ ?_
  exact nR []
 refine NWp.seq ?_
 obtain ⟨r1, hr1, h⟩ := bindE h
 refine NWp.opsJ ⟨tab [(1, vl1 a1), (2, vp3 a0), (7, vb (!r1))], stab [], 0⟩ ?_ ?_
 ·
  refine stepC (r := .bool r1) ArgsOk.nil' (c_law11_awake hr1) ?_
  refine q1 _ ?_
  exact nR []
 by_cases hc2 : (!r1) = true
 ·
  replace h := iteT hc2 h
  refine NWp.condT (t := (!r1)) rfl hc2 ?_
  refine NWp.opsJ ⟨tab [(4, vb false)], stab [], 0⟩ ?_ ?_
  ·
   refine q1 _ ?_
   exact nR []
  have hh := Option.some.inj h
  subst hh
  refine NWp.ret ?_
  show FQ _ _ _ _
  exact FQ.mk1 (.inr rfl) (res_t (v := vb false) rfl rfl) (RV.d trivial)
 ·
  replace h := iteF hc2 h
  refine NWp.condF (t := (!r1)) rfl hc2 ?_
  refine NWp.skip ?_
  refine NWp.seq ?_
  refine NWp.opsJ ⟨tab [(1, vl1 a1), (2, vp3 a0), (22, vb ((decide ((a0.Guard.length : Int) > 6)) || ((decide ((a0.Then.length : Int) > 6)) || (decide ((a1.length : Int) > 6)))))], stab [], 0⟩ ?_ ?_
  ·
   iterate 2 refine q1 _ ?_
   refine step (v := vi (a0.Guard.length : Int)) (st_len (xs := a0.Guard) (e := eapi_Pair) rfl) ?_
   iterate 2 refine q1 _ ?_
   by_cases hg3 : decide ((a0.Guard.length : Int) > 6) = true
   ·
    iterate 4 refine qX (decide ((a0.Guard.length : Int) > 6)) (by rw [hg3]; decide) ?_
    refine step (v := vb true) (st_pickT (b := decide ((a0.Guard.length : Int) > 6)) rfl hg3 rfl) ?_
    refine q1 _ ?_
    iterate 3 refine qX true (by decide) ?_
    refine step (v := vb true) (st_pickT (b := true) rfl rfl rfl) ?_
    exact RunOps.nil' (nm [] ⟨.d _, .d _, .eq (by first | (simp [hg3]; done) | (simp_all; done) | grind), trivial⟩ trivial)
   ·
    refine qG (decide ((a0.Guard.length : Int) > 6)) (Bool.eq_false_iff.2 hg3) ?_
    refine q1 _ ?_
    refine qG (decide ((a0.Guard.length : Int) > 6)) (Bool.eq_false_iff.2 hg3) ?_
    refine q1 _ ?_
    refine qG (decide ((a0.Guard.length : Int) > 6)) (Bool.eq_false_iff.2 hg3) ?_
    refine step (v := vi (a0.Then.length : Int)) (st_len (xs := a0.Then) (e := eapi_Pair) rfl) ?_
    refine qG (decide ((a0.Guard.length : Int) > 6)) (Bool.eq_false_iff.2 hg3) ?_
    refine q1 _ ?_
    refine step (v := vb (decide ((a0.Then.length : Int) > 6))) (st_pickF (b := decide ((a0.Guard.length : Int) > 6)) rfl hg3 rfl) ?_
    refine q1 _ ?_
    by_cases hg4 : decide ((a0.Then.length : Int) > 6) = true
    ·
     iterate 3 refine qX (decide ((a0.Then.length : Int) > 6)) (by rw [hg4]; decide) ?_
     refine step (v := vb true) (st_pickT (b := decide ((a0.Then.length : Int) > 6)) rfl hg4 rfl) ?_
     exact RunOps.nil' (nm [] ⟨.d _, .d _, .eq (by first | (simp [hg3, hg4]; done) | (simp_all; done) | grind), trivial⟩ trivial)
    ·
     refine qG (decide ((a0.Then.length : Int) > 6)) (Bool.eq_false_iff.2 hg4) ?_
     refine q1 _ ?_
     refine qG (decide ((a0.Then.length : Int) > 6)) (Bool.eq_false_iff.2 hg4) ?_
     refine step (v := vi (a1.length : Int)) (st_len (xs := a1) (e := (D.int .u16)) rfl) ?_
     refine qG (decide ((a0.Then.length : Int) > 6)) (Bool.eq_false_iff.2 hg4) ?_
     refine q1 _ ?_
     refine step (v := vb (decide ((a1.length : Int) > 6))) (st_pickF (b := decide ((a0.Then.length : Int) > 6)) rfl hg4 rfl) ?_
     exact RunOps.nil' (nm [] ⟨.d _, .d _, .eq (by first | (simp [hg3, hg4]; done) | (simp_all; done) | grind), trivial⟩ trivial)
  by_cases hc5 : ((decide ((a0.Guard.length : Int) > 6)) || ((decide ((a0.Then.length : Int) > 6)) || (decide ((a1.length : Int) > 6)))) = true
  ·
   replace h := iteT hc5 h
   refine NWp.condT (t := ((decide ((a0.Guard.length : Int) > 6)) || ((decide ((a0.Then.length : Int) > 6)) || (decide ((a1.length : Int) > 6))))) rfl hc5 ?_
   refine NWp.opsJ ⟨tab [(4, vb true)], stab [], 0⟩ ?_ ?_
   ·
    refine q1 _ ?_
    exact nR []
   have hh := Option.some.inj h
   subst hh
   refine NWp.ret ?_
   show FQ _ _ _ _
   exact FQ.mk1 (.inr rfl) (res_t (v := vb true) rfl rfl) (RV.d trivial)
  ·
   replace h := iteF hc5 h
   refine NWp.condF (t := ((decide ((a0.Guard.length : Int) > 6)) || ((decide ((a0.Then.length : Int) > 6)) || (decide ((a1.length : Int) > 6))))) rfl hc5 ?_
   refine NWp.skip ?_
   obtain ⟨l6, hl6, h⟩ := bindE h
   refine NWp.opsJ ⟨tab [(1, vl1 a1), (2, vp3 a0), (5, .loc 0 0 l6.length)], stab [(0, .lst false none (List.map (D.int .u16) l6))], 1⟩ ?_ ?_
   ·
    refine step (v := .loc 0 0 (([] : List Int).length)) (σ' := (upd (stab []) 0 (some (.lst false none (List.map (D.int .u16) ([] : List Int)))))) (n' := 1) rfl ?_
    refine q1 _ ?_
    refine step (v := .loc 1 0 l6.length) (σ' := (upd (upd (upd (stab []) 0 (some (.lst false none (List.map (D.int .u16) ([] : List Int))))) 0 none) 1 (some (.lst false none (List.map (D.int .u16) l6))))) (n' := 2) (st_app (xs := ([] : List Int)) (ys := a1) (e := (D.int .u16)) hl6 rfl rfl rfl (src_v (xs := a1) (e := (D.int .u16)) rfl)) ?_
    refine q1 _ ?_
    exact nR [1]
   obtain ⟨r7, hr7, h⟩ := bindE h
   obtain ⟨r8, hr8, h⟩ := bindE h
   obtain ⟨y15, hv, h⟩ := bindE h
   refine NWp.opsJ ⟨tab [(4, vb y15)], stab [], 0⟩ ?_ ?_
   ·
    iterate 2 refine q1 _ ?_
    refine stepC (r := .bool r7) (ArgsOk.dt (ArgsOk.dt ArgsOk.nil')) (c_space_Goes hr7) ?_
    iterate 2 refine q1 _ ?_
    refine stepC (r := .bool r8) (ArgsOk.dt (ArgsOk.dt ArgsOk.nil')) (c_ref11_Goes hr8) ?_
    iterate 2 refine q1 _ ?_
    by_cases hg9 : (r7 == r8) = true
    ·
     replace hv := iteT hg9 hv
     obtain ⟨r10, hr10, hv⟩ := bindE hv
     obtain ⟨r11, hr11, hv⟩ := bindE hv
     obtain ⟨r12, hr12, hv⟩ := bindE hv
     refine qG _ hg9 ?_
     refine q1 _ ?_
     refine qG _ hg9 ?_
     refine q1 _ ?_
     refine qG _ hg9 ?_
     refine stepC (r := eL none (D.int .u16) r10) (ArgsOk.dt (ArgsOk.dt ArgsOk.nil')) (c_space_After hr10) ?_
     refine qG _ hg9 ?_
     refine q1 _ ?_
     refine qG _ hg9 ?_
     refine q1 _ ?_
     refine qG _ hg9 ?_
     refine stepC (r := eL none (D.int .u16) r11) (ArgsOk.dt (ArgsOk.dt ArgsOk.nil')) (c_ref11_After hr11) ?_
     refine qG _ hg9 ?_
     refine stepC (r := .bool r12) (ArgsOk.dt (ArgsOk.dt ArgsOk.nil')) (c_ref11_Same hr12) ?_
     refine step (v := vb r12) (st_pickT (b := (r7 == r8)) rfl hg9 rfl) ?_
     refine q1 _ ?_
     by_cases hg13 : r12 = true
     ·
      replace hv := iteT hg13 hv
      obtain ⟨r14, hr14, hv⟩ := bindE hv
      refine qG _ hg13 ?_
      refine q1 _ ?_
      refine qG _ hg13 ?_
      refine q1 _ ?_
      refine qG _ hg13 ?_
      refine stepC (r := .bool r14) (ArgsOk.dt (ArgsOk.lcm (xs := l6) (e := (D.int .u16)) rfl rfl ArgsOk.nil')) (c_ref11_Same hr14) ?_
      refine step (v := vb r14) (st_pickT (b := r12) rfl hg13 rfl) ?_
      refine q1 _ ?_
      have hh := Option.some.inj hv
      subst hh
      exact nR []
     ·
      replace hv := iteF hg13 hv
      iterate 3 refine qX _ hg13 ?_
      refine step (v := vb false) (st_pickF (b := r12) rfl hg13 rfl) ?_
      refine q1 _ ?_
      have hh := Option.some.inj hv
      subst hh
      exact nR []
    ·
     replace hv := iteF hg9 hv
     iterate 7 refine qX _ hg9 ?_
     refine step (v := vb false) (st_pickF (b := (r7 == r8)) rfl hg9 rfl) ?_
     refine q1 _ ?_
     iterate 3 refine qX false (by decide) ?_
     refine step (v := vb false) (st_pickF (b := false) rfl (by decide) rfl) ?_
     refine q1 _ ?_
     have hh := Option.some.inj hv
     subst hh
     exact nR []
   have hh := Option.some.inj h
   subst hh
   refine NWp.ret ?_
   show FQ _ _ _ _
   exact FQ.mk1 (.inr rfl) (res_t (v := vb y15) rfl rfl) (RV.d trivial)

end Go.AM
