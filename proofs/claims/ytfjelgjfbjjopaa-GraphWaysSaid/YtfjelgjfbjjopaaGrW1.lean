import Derived.Test.YtfjelgjfbjjopaaGrE
set_option linter.unusedVariables false
set_option linter.unusedSimpArgs false
namespace Go.AM
open Go Go.RowKit Go.Proofs
attribute [local irreducible] aI cb
set_option maxHeartbeats 2000000
theorem ut {a0 : (List Int)} {a1 : Int} {r : Int} (h : jf a0 a1 = some r) : PCall Try.prog 81 [eL none (D.int .u16) a0, .int .u16 a1] (.int .i64 r) := by
 refine PCall.introN ta (show 2 ≤ 19 by decide) ?_
 refine bg (s0 := ⟨tab [(0, dp a0), (1, vh a1)], ae [], 0⟩) (nr []) ?_
 refine ak ⟨tab [(0, dp a0), (1, vh a1)], ae [], 0⟩ ?_ ?_
 ·
  refine q1 _ ?_
  exact nR []
 refine aH ?_
 refine ak ⟨tab [(0, dp a0), (1, vh a1), (7, vi (a0.length : Int)), (8, vi 0)], ae [], 0⟩ ?_ ?_
 ·
  refine q1 _ ?_
  refine step (v := vi (a0.length : Int)) (bR (xs := a0) (e := (D.int .u16)) rfl) ?_
  refine q1 _ ?_
  exact nR []
 obtain ⟨q9, hl, h⟩ := aB h
 refine br ?_
 refine eC (cC (a0.length : Int)) (fun (i1 : Int) (qq : Unit) => ⟨tab [(0, dp a0), (1, vh a1), (7, vi (a0.length : Int)), (8, vi i1)], ae [], 0⟩) 0 (fun (qq : Unit) => ⟨tab [], ae [], 0⟩) bu cD (r := r) hl (by unfold bu; omega) ?_ ?_ ?_ ?_
 ·
  rintro i1 ⟨⟩ xr6 hinv4 hgo3 h
  show aG _ _ _ _ _ ⟨tab [(0, dp a0), (1, vh a1), (7, vi (a0.length : Int)), (8, vi i1)], ae [], 0⟩
  have hc5 : decide (i1 < (a0.length : Int)) = true := decide_eq_true hgo3
  refine ak ⟨tab [(0, dp a0), (1, vh a1), (7, vi (a0.length : Int)), (8, vi i1), (9, vb (decide (i1 < (a0.length : Int))))], ae [], 0⟩ ?_ ?_
  ·
   refine q1 _ ?_
   exact nR []
  refine cB 7 rfl fun hB2 => ?_
  refine aH ?_
  refine bb (t := decide (i1 < (a0.length : Int))) rfl hc5 ?_
  refine bf ?_
  refine aH ?_
  refine br ?_
  refine ak ⟨tab [(0, dp a0), (1, vh a1), (5, vi i1), (7, vi (a0.length : Int)), (8, vi i1)], ae [], 0⟩ ?_ ?_
  ·
   iterate 2 refine q1 _ ?_
   exact nR []
  obtain ⟨x7, hx7, h⟩ := aB h
  refine ak ⟨tab [(0, dp a0), (1, vh a1), (5, vi i1), (7, vi (a0.length : Int)), (8, vi i1), (16, vb (a1 == x7))], ae [], 0⟩ ?_ ?_
  ·
   iterate 3 refine q1 _ ?_
   refine step (v := .d (.cptr none (.int .u16 x7) 0)) (bX (xs := a0) (e := (D.int .u16)) hx7 rfl rfl) ?_
   iterate 2 refine q1 _ ?_
   exact nR []
  by_cases hc8 : (a1 == x7) = true
  ·
   replace h := bo hc8 h
   refine bb (t := (a1 == x7)) rfl hc8 ?_
   refine ak ⟨tab [(4, vi i1)], ae [], 0⟩ ?_ ?_
   ·
    iterate 2 refine q1 _ ?_
    exact nR []
   obtain ⟨r9, kr9, hr⟩ := dO (o := some i1) (g := Br.ret) h
   subst hr
   have h := kr9
   have hh := aC h
   subst hh
   refine bA ?_
   refine And.intro (fun hn => nomatch hn) ?_
   intro hq
   have hq := hq.symm
   subst hq
   show FQ _ _ _ _
   exact bZ (.inr rfl) (bh (v := vi i1) rfl rfl) (RV.d trivial)
  ·
   replace h := bp hc8 h
   refine bd (t := (a1 == x7)) rfl hc8 ?_
   refine bf ?_
   have hh := aC h
   subst hh
   refine bO ⟨tab [(0, dp a0), (1, vh a1), (7, vi (a0.length : Int)), (8, vi (i1 + 1))], ae [], 0⟩ ?_ ?_
   ·
    refine step (v := vi (i1 + 1)) (cx (cz hinv4 hgo3 hB2) rfl rfl) ?_
    refine q1 _ ?_
    exact nR []
   exact And.intro rfl rfl
 ·
  rintro i1 ⟨⟩ hinv4 hgo3
  show aG _ _ _ _ _ ⟨tab [(0, dp a0), (1, vh a1), (7, vi (a0.length : Int)), (8, vi i1)], ae [], 0⟩
  have hc5 : ¬ (decide (i1 < (a0.length : Int)) = true) := fun hq => hgo3 (of_decide_eq_true hq)
  refine ak ⟨tab [(0, dp a0), (1, vh a1), (7, vi (a0.length : Int)), (8, vi i1), (9, vb (decide (i1 < (a0.length : Int))))], ae [], 0⟩ ?_ ?_
  ·
   refine q1 _ ?_
   exact nR []
  refine aH ?_
  refine bd (t := decide (i1 < (a0.length : Int))) rfl hc5 ?_
  refine bg (s0 := ⟨tab [], ae [], 0⟩) (nr []) ?_
  refine ce ?_
  exact And.intro rfl rfl
 ·
  intro r' hq
  subst hq
  exact aC h
 rintro ⟨⟩ rfl
 refine ak ⟨tab [(4, vi (-1))], ae [], 0⟩ ?_ ?_
 ·
  refine q1 _ ?_
  exact nR []
 have hh := aC h
 subst hh
 refine bA ?_
 show FQ _ _ _ _
 exact bZ (.inr rfl) (bh (v := vi (-1)) rfl rfl) (RV.d trivial)
theorem j8 {a0 : api_Topo} {a1 : Int} {r : (Int × Bool)} (h : fR a0 a1 = some r) : PCall Try.prog 61 [eapi_Topo a0, .int .u16 a1] (.tup [.int .i64 r.1, .bool r.2]) := by
 refine PCall.introN tc (show 2 ≤ 15 by decide) ?_
 refine bg (s0 := ⟨tab [(0, vs1 a0), (1, vh a1)], ae [], 0⟩) (nr []) ?_
 refine ak ⟨tab [(1, vh a1), (2, ap a0)], ae [], 0⟩ ?_ ?_
 ·
  iterate 3 refine q1 _ ?_
  exact nR []
 obtain ⟨r1, hr1, h⟩ := aB h
 refine ak ⟨tab [(6, vi r1)], ae [], 0⟩ ?_ ?_
 ·
  iterate 3 refine q1 _ ?_
  refine bI (r := .int .i64 r1) (aK (aK a8.nil')) (ut hr1) ?_
  refine q1 _ ?_
  exact nR []
 refine ak ⟨tab [(4, vi (fB r1 0)), (5, vb (decide (r1 ≥ 0)))], ae [], 0⟩ ?_ ?_
 ·
  iterate 6 refine q1 _ ?_
  exact nR []
 have hh := aC h
 subst hh
 refine bA ?_
 show FQ _ _ _ _
 exact dQ (.inr rfl) (bh (v := vi (fB r1 0)) rfl (bh (v := vb (decide (r1 ≥ 0))) rfl rfl)) (RV.d (RV.d trivial))
theorem uv {a0 : (List Int)} {r : (List Int)} (h : ig a0 = some r) : dM Try.prog 80 [.loc 0 0 a0.length] (ae [(0, .lst true none (List.map (D.int .i64) a0))]) 1 (.loc 0 0 r.length) (ae [(0, .lst true none (List.map (D.int .i64) r))]) 1 := by
 refine dM.introN (bl := [(0, .lst true none (List.map (D.int .i64) a0))]) (bl' := [(0, .lst true none (List.map (D.int .i64) r))]) tg (show 1 ≤ 61 by decide) rfl ?_
 refine bg (s0 := ⟨tab [(0, .loc 0 0 a0.length)], ae [(0, .lst true none (List.map (D.int .i64) a0))], 1⟩) (nr [0]) ?_
 refine ak ⟨tab [(0, .loc 0 0 a0.length)], ae [(0, .lst true none (List.map (D.int .i64) a0))], 1⟩ ?_ ?_
 ·
  refine q1 _ ?_
  exact nR [0]
 refine aH ?_
 refine ak ⟨tab [(0, .loc 0 0 a0.length), (8, vb (decide ((a0.length : Int) < 2)))], ae [(0, .lst true none (List.map (D.int .i64) a0))], 1⟩ ?_ ?_
 ·
  iterate 3 refine q1 _ ?_
  exact nR [0]
 by_cases hc1 : decide ((a0.length : Int) < 2) = true
 ·
  replace h := bo hc1 h
  refine bb (t := decide ((a0.length : Int) < 2)) rfl hc1 ?_
  refine ak ⟨tab [(2, .loc 0 0 a0.length)], ae [(0, .lst true none (List.map (D.int .i64) a0))], 1⟩ ?_ ?_
  ·
   iterate 2 refine q1 _ ?_
   exact nR [0]
  have hh := aC h
  subst hh
  refine bA ?_
  exact ⟨.inr rfl, _, rfl, rfl, gx.sub ⟨rfl, trivial⟩, rfl⟩
 ·
  replace h := bp hc1 h
  refine bd (t := decide ((a0.length : Int) < 2)) rfl hc1 ?_
  refine bf ?_
  refine aH ?_
  refine ak ⟨tab [(0, .loc 0 0 a0.length), (3, vi 1)], ae [(0, .lst true none (List.map (D.int .i64) a0))], 1⟩ ?_ ?_
  ·
   refine q1 _ ?_
   exact nR [0]
  obtain ⟨q34, hl, h⟩ := aB h
  refine br ?_
  refine eC (cC (a0.length : Int)) (fun (i2 : Int) (qq : Unit) => ⟨tab [(0, .loc 0 0 a0.length), (3, vi i2)], ae [(0, .lst true none (List.map (D.int .i64) a0))], 1⟩) 0 (fun (qq : Unit) => ⟨tab [(0, .loc 0 0 a0.length)], ae [(0, .lst true none (List.map (D.int .i64) a0))], 1⟩) bu cD (r := r) hl (by unfold bu; omega) ?_ ?_ ?_ ?_
  ·
   rintro i2 ⟨⟩ xr7 hinv5 hgo4 h
   show aG _ _ _ _ _ ⟨tab [(0, .loc 0 0 a0.length), (3, vi i2)], ae [(0, .lst true none (List.map (D.int .i64) a0))], 1⟩
   have hc6 : decide (i2 < (a0.length : Int)) = true := decide_eq_true hgo4
   refine aH ?_
   refine ak ⟨tab [(0, .loc 0 0 a0.length), (3, vi i2), (12, vi (a0.length : Int)), (13, vb (decide (i2 < (a0.length : Int))))], ae [(0, .lst true none (List.map (D.int .i64) a0))], 1⟩ ?_ ?_
   ·
    iterate 4 refine q1 _ ?_
    exact nR [0]
   refine cB 12 rfl fun hB3 => ?_
   refine bb (t := decide (i2 < (a0.length : Int))) rfl hc6 ?_
   refine bf ?_
   refine aH ?_
   refine br ?_
   obtain ⟨x8, hx8, h⟩ := aB h
   obtain ⟨x9, hx9, h⟩ := aB h
   refine ak ⟨tab [(0, .loc 0 0 a0.length), (3, vi i2), (25, vb (x8 == x9))], ae [(0, .lst true none (List.map (D.int .i64) a0))], 1⟩ ?_ ?_
   ·
    iterate 2 refine q1 _ ?_
    refine step (v := .ptr 0 i2.toNat 0) (dN (xs := a0) (e := (D.int .i64)) hx8 rfl rfl rfl rfl) ?_
    refine step (v := vi x8) (e8 (xs := a0) (e := (D.int .i64)) hx8 rfl rfl rfl) ?_
    iterate 3 refine q1 _ ?_
    refine step (v := .ptr 0 (IntKind.i64.wrap (i2 - 1)).toNat 0) (dN (xs := a0) (e := (D.int .i64)) hx9 rfl rfl rfl rfl) ?_
    refine step (v := vi x9) (e8 (xs := a0) (e := (D.int .i64)) hx9 rfl rfl rfl) ?_
    refine q1 _ ?_
    exact nR [0]
   by_cases hc10 : (x8 == x9) = true
   ·
    replace h := bo hc10 h
    refine bb (t := (x8 == x9)) rfl hc10 ?_
    obtain ⟨l11, hl11, h⟩ := aB h
    refine ak ⟨tab [(0, .loc 0 0 a0.length), (3, vi i2), (4, .loc 0 i2.toNat ((a0.length : Int).toNat - i2.toNat))], ae [(0, .lst true none (List.map (D.int .i64) a0))], 1⟩ ?_ ?_
    ·
     iterate 2 refine q1 _ ?_
     refine step (v := .loc 0 i2.toNat ((a0.length : Int).toNat - i2.toNat)) (om (xs := a0) (e := (D.int .i64)) hl11 rfl rfl rfl ⟨_, rfl⟩ rfl) ?_
     refine q1 _ ?_
     exact nR [0]
    refine aH ?_
    refine ak ⟨tab [(0, .loc 0 0 a0.length), (3, vi i2), (4, .loc 0 i2.toNat ((a0.length : Int).toNat - i2.toNat)), (5, vi 1)], ae [(0, .lst true none (List.map (D.int .i64) a0))], 1⟩ ?_ ?_
    ·
     refine q1 _ ?_
     exact nR [0]
    obtain ⟨q33, hl, h⟩ := aB h
    obtain ⟨z30, z31⟩ := q33
    refine br ?_
    refine e7 (cC (l11.length : Int)) (fun (i14 : Int) (qq : ((List Int) × Int)) => ⟨tab [(0, .loc 0 0 qq.1.length), (3, vi qq.2), (4, .loc 0 i2.toNat ((a0.length : Int).toNat - i2.toNat)), (5, vi i14)], ae [(0, .lst true none (List.map (D.int .i64) qq.1))], 1⟩) 2 (fun (qq : ((List Int) × Int)) => ⟨tab [(0, .loc 0 0 qq.1.length), (3, vi qq.2)], ae [(0, .lst true none (List.map (D.int .i64) qq.1))], 1⟩) bu cD hl (by unfold bu; omega) ?_ ?_ ?_
    ·
     rintro i14 ⟨l12, i13⟩ xr19 hinv17 hgo16 h
     show aG _ _ _ _ _ ⟨tab [(0, .loc 0 0 l12.length), (3, vi i13), (4, .loc 0 i2.toNat ((a0.length : Int).toNat - i2.toNat)), (5, vi i14)], ae [(0, .lst true none (List.map (D.int .i64) l12))], 1⟩
     have hc18 : decide (i14 < (l11.length : Int)) = true := decide_eq_true hgo16
     refine aH ?_
     refine ak ⟨tab [(0, .loc 0 0 l12.length), (3, vi i13), (4, .loc 0 i2.toNat ((a0.length : Int).toNat - i2.toNat)), (5, vi i14), (31, vi (l11.length : Int)), (32, vb (decide (i14 < (l11.length : Int))))], ae [(0, .lst true none (List.map (D.int .i64) l12))], 1⟩ ?_ ?_
     ·
      iterate 2 refine q1 _ ?_
      refine step (v := vi (l11.length : Int)) (ow (lo := i2) (hi := (a0.length : Int)) rfl hl11) ?_
      refine q1 _ ?_
      exact nR [0]
     refine cB 31 rfl fun hB15 => ?_
     refine bb (t := decide (i14 < (l11.length : Int))) rfl hc18 ?_
     refine bf ?_
     obtain ⟨q29, hv, h⟩ := aB h
     obtain ⟨l27, y28⟩ := q29
     refine iO ⟨tab [(0, .loc 0 0 l27.length), (3, vi y28), (4, .loc 0 i2.toNat ((a0.length : Int).toNat - i2.toNat)), (5, vi i14)], ae [(0, .lst true none (List.map (D.int .i64) l27))], 1⟩ ?_ ?_
     ·
      replace h := hv
      refine br ?_
      obtain ⟨x20, hx20, h⟩ := aB h
      obtain ⟨x21, hx21, h⟩ := aB h
      obtain ⟨x22, hx22, h⟩ := aB h
      obtain ⟨x23, hx23, h⟩ := aB h
      refine ak ⟨tab [(0, .loc 0 0 l12.length), (3, vi i13), (4, .loc 0 i2.toNat ((a0.length : Int).toNat - i2.toNat)), (5, vi i14), (44, vb (x21 != x23))], ae [(0, .lst true none (List.map (D.int .i64) l12))], 1⟩ ?_ ?_
      ·
       iterate 2 refine q1 _ ?_
       refine step (v := .ptr 0 (i2 + i14).toNat 0) (lX (xs := l12) (e := (D.int .i64)) hx20 rfl rfl rfl) ?_
       refine step (v := vi x21) (e8 (xs := l12) (e := (D.int .i64)) hx21 rfl rfl rfl) ?_
       iterate 3 refine q1 _ ?_
       refine step (v := .ptr 0 (i2 + (IntKind.i64.wrap (i14 - 1))).toNat 0) (lX (xs := l12) (e := (D.int .i64)) hx22 rfl rfl rfl) ?_
       refine step (v := vi x23) (e8 (xs := l12) (e := (D.int .i64)) hx23 rfl rfl rfl) ?_
       refine q1 _ ?_
       exact nR [0]
      by_cases hc24 : (x21 != x23) = true
      ·
       replace h := bo hc24 h
       refine bb (t := (x21 != x23)) rfl hc24 ?_
       obtain ⟨x25, hx25, h⟩ := aB h
       obtain ⟨l26, hl26, h⟩ := aB h
       refine ak ⟨tab [(0, .loc 0 0 l26.length), (3, vi i13), (4, .loc 0 i2.toNat ((a0.length : Int).toNat - i2.toNat)), (5, vi i14)], ae [(0, .lst true none (List.map (D.int .i64) l26))], 1⟩ ?_ ?_
       ·
        iterate 4 refine q1 _ ?_
        refine step (v := .ptr 0 (i2 + i14).toNat 0) (lX (xs := l12) (e := (D.int .i64)) hx20 rfl rfl rfl) ?_
        refine step (v := vi x21) (e8 (xs := l12) (e := (D.int .i64)) hx21 rfl rfl rfl) ?_
        refine step (v := .ptr 0 i13.toNat 0) (dN (xs := l12) (e := (D.int .i64)) hx25 rfl rfl rfl rfl) ?_
        refine step (v := V.undef) (σ' := (ah (ae [(0, .lst true none (List.map (D.int .i64) l12))]) 0 (some (.lst true none (List.map (D.int .i64) l26))))) (n' := 1) (gz (e := (D.int .i64)) (v' := x21) hl26 rfl rfl rfl rfl rfl) ?_
        exact aI.nil' (nm [0] ⟨.le (id := 0) (gy hl26).symm (show 0 < 1 by decide), .d _, .lc 0, .d _, trivial⟩ ⟨⟨show 0 < 1 by decide, _, rfl, .lst _ _ _⟩, trivial⟩)
       have hh := aC h
       obtain ⟨he0, ht0⟩ := Prod.mk.inj hh
       subst he0
       subst ht0
       refine bO ⟨tab [(0, .loc 0 0 l26.length), (3, vi (IntKind.i64.wrap (i13 + 1))), (4, .loc 0 i2.toNat ((a0.length : Int).toNat - i2.toNat)), (5, vi i14)], ae [(0, .lst true none (List.map (D.int .i64) l26))], 1⟩ ?_ ?_
       ·
        iterate 3 refine q1 _ ?_
        exact nR [0]
       exact And.intro rfl rfl
      ·
       replace h := bp hc24 h
       refine bd (t := (x21 != x23)) rfl hc24 ?_
       have hh := aC h
       obtain ⟨he0, ht0⟩ := Prod.mk.inj hh
       subst he0
       subst ht0
       refine bg (s0 := ⟨tab [(0, .loc 0 0 l12.length), (3, vi i13), (4, .loc 0 i2.toNat ((a0.length : Int).toNat - i2.toNat)), (5, vi i14)], ae [(0, .lst true none (List.map (D.int .i64) l12))], 1⟩) (nr [0]) ?_
       refine bf ?_
       exact And.intro rfl rfl
     have hh := aC h
     subst hh
     refine bO ⟨tab [(0, .loc 0 0 l27.length), (3, vi y28), (4, .loc 0 i2.toNat ((a0.length : Int).toNat - i2.toNat)), (5, vi (i14 + 1))], ae [(0, .lst true none (List.map (D.int .i64) l27))], 1⟩ ?_ ?_
     ·
      refine q1 _ ?_
      refine step (v := vi (i14 + 1)) (cx (cz hinv17 hgo16 hB15) rfl rfl) ?_
      refine q1 _ ?_
      exact nR [0]
     exact And.intro rfl rfl
    ·
     rintro i14 ⟨l12, i13⟩ hinv17 hgo16
     show aG _ _ _ _ _ ⟨tab [(0, .loc 0 0 l12.length), (3, vi i13), (4, .loc 0 i2.toNat ((a0.length : Int).toNat - i2.toNat)), (5, vi i14)], ae [(0, .lst true none (List.map (D.int .i64) l12))], 1⟩
     have hc18 : ¬ (decide (i14 < (l11.length : Int)) = true) := fun hq => hgo16 (of_decide_eq_true hq)
     refine aH ?_
     refine ak ⟨tab [(0, .loc 0 0 l12.length), (3, vi i13), (4, .loc 0 i2.toNat ((a0.length : Int).toNat - i2.toNat)), (5, vi i14), (32, vb (decide (i14 < (l11.length : Int))))], ae [(0, .lst true none (List.map (D.int .i64) l12))], 1⟩ ?_ ?_
     ·
      iterate 2 refine q1 _ ?_
      refine step (v := vi (l11.length : Int)) (ow (lo := i2) (hi := (a0.length : Int)) rfl hl11) ?_
      refine q1 _ ?_
      exact nR [0]
     refine bd (t := decide (i14 < (l11.length : Int))) rfl hc18 ?_
     refine bg (s0 := ⟨tab [(0, .loc 0 0 l12.length), (3, vi i13)], ae [(0, .lst true none (List.map (D.int .i64) l12))], 1⟩) (nr [0]) ?_
     refine ce ?_
     exact And.intro rfl rfl
    obtain ⟨l32, hl32, h⟩ := aB h
    refine ak ⟨tab [(0, .loc 0 0 z30.length), (3, vi z31)], ae [(0, .lst true none (List.map (D.int .i64) (z30.take z31.toNat)))], 1⟩ ?_ ?_
    ·
     iterate 2 refine q1 _ ?_
     refine step (v := .loc 0 z31.toNat ((z30.length : Int).toNat - z31.toNat)) (om (xs := z30) (e := (D.int .i64)) hl32 rfl rfl rfl ⟨_, rfl⟩ rfl) ?_
     refine step (v := .d (.tup [])) (σ' := (ah (ae [(0, .lst true none (List.map (D.int .i64) z30))]) 0 (some (.lst true none (List.map (D.int .i64) (z30.take z31.toNat)))))) (n' := 1) (ry (xs := z30) (e := (D.int .i64)) rfl rfl (by have := lr hl32; omega)) ?_
     exact nR [0]
    refine ak ⟨tab [(2, .loc 0 0 ((z30.take z31.toNat).length))], ae [(0, .lst true none (List.map (D.int .i64) (z30.take z31.toNat)))], 1⟩ ?_ ?_
    ·
     iterate 2 refine q1 _ ?_
     refine step (v := .loc 0 0 ((z30.take z31.toNat).length)) (rz (xs := z30) (e := (D.int .i64)) hl32 rfl rfl rfl rfl ⟨_, rfl⟩) ?_
     refine q1 _ ?_
     exact nR [0]
    obtain ⟨r33, kr33, hr⟩ := dO (o := some (z30.take z31.toNat)) (g := Br.ret) h
    subst hr
    have h := kr33
    have hh := aC h
    subst hh
    refine bA ?_
    refine And.intro (fun hn => nomatch hn) ?_
    intro hq
    have hq := hq.symm
    subst hq
    exact ⟨.inr rfl, _, rfl, rfl, gx.sub ⟨rfl, trivial⟩, rfl⟩
   ·
    replace h := bp hc10 h
    refine bd (t := (x8 == x9)) rfl hc10 ?_
    refine bf ?_
    have hh := aC h
    subst hh
    refine bO ⟨tab [(0, .loc 0 0 a0.length), (3, vi (i2 + 1))], ae [(0, .lst true none (List.map (D.int .i64) a0))], 1⟩ ?_ ?_
    ·
     refine q1 _ ?_
     refine step (v := vi (i2 + 1)) (cx (cz hinv5 hgo4 hB3) rfl rfl) ?_
     refine q1 _ ?_
     exact nR [0]
    exact And.intro rfl rfl
  ·
   rintro i2 ⟨⟩ hinv5 hgo4
   show aG _ _ _ _ _ ⟨tab [(0, .loc 0 0 a0.length), (3, vi i2)], ae [(0, .lst true none (List.map (D.int .i64) a0))], 1⟩
   have hc6 : ¬ (decide (i2 < (a0.length : Int)) = true) := fun hq => hgo4 (of_decide_eq_true hq)
   refine aH ?_
   refine ak ⟨tab [(0, .loc 0 0 a0.length), (3, vi i2), (13, vb (decide (i2 < (a0.length : Int))))], ae [(0, .lst true none (List.map (D.int .i64) a0))], 1⟩ ?_ ?_
   ·
    iterate 4 refine q1 _ ?_
    exact nR [0]
   refine bd (t := decide (i2 < (a0.length : Int))) rfl hc6 ?_
   refine bg (s0 := ⟨tab [(0, .loc 0 0 a0.length)], ae [(0, .lst true none (List.map (D.int .i64) a0))], 1⟩) (nr [0]) ?_
   refine ce ?_
   exact And.intro rfl rfl
  ·
   intro r' hq
   subst hq
   exact aC h
  rintro ⟨⟩ rfl
  refine ak ⟨tab [(2, .loc 0 0 a0.length)], ae [(0, .lst true none (List.map (D.int .i64) a0))], 1⟩ ?_ ?_
  ·
   iterate 2 refine q1 _ ?_
   exact nR [0]
  have hh := aC h
  subst hh
  refine bA ?_
  exact ⟨.inr rfl, _, rfl, rfl, gx.sub ⟨rfl, trivial⟩, rfl⟩
def oG (g : List (List Int)) : aq := fO [(0, .var (bP 2 g))] 2 g
def ic (g : List (List Int)) (cs : List V) : aq := fO [(0, .var (bP 2 g)), (1, .var cs)] 2 g
theorem fP {g : List (List Int)} {i : Nat} {l : List Int} (h : g[i]? = some l) : oG g (2 + i) = some (.lst true none (l.map (D.int .i64))) := jc h
theorem dX {g : List (List Int)} {T : Nat → V} {n : Nat} {l : List (Nat × V)} (hT : TN id (2 + g.length) T l) : bn 0 ⟨T, oG g, n⟩ ⟨tab l, oG g, 2 + g.length⟩ :=
 o9 (by omega) hT (by intro p hp; simp at hp; subst hp; show 0 < 2; decide) ⟨⟨by show 0 < _; omega, _, rfl, .locs rfl rfl⟩, trivial⟩
theorem uw {g : List (List Int)} {T : Nat → V} {n : Nat} {l : List (Nat × V)} {cs : List V} {σ : aq} (h0 : σ 0 = some (.var (bP 2 g))) (h1 : σ n = some (.var cs)) (hcs : BN (fun id => if id = 1 then n else id) (2 + g.length) (.var cs) (.var cs)) (hin : ∀ i l, g[i]? = some l → σ (2 + i) = some (.lst true none (l.map (D.int .i64))))
 (hn : n = 2 + g.length) (hT : TN (fun id => if id = 1 then n else id) (2 + g.length) T l) : bn 0 ⟨T, σ, n + 1⟩ ⟨tab l, ic g cs, 2 + g.length⟩ := by
 refine bn.fam (fun id => if id = 1 then n else id) (fun id h => by omega) (fun x y hx hy e => ?_) (by omega) hT (by intro p hp; simp at hp; rcases hp with rfl | rfl; (show 0 < 2; decide); (show 1 < 2; decide)) ⟨⟨by show 0 < _; omega, _, h0, .locs ?_ rfl⟩, ⟨by show 1 < _; omega, _, h1, hcs⟩, trivial⟩ (fun i l h => ?_)
 ·
  split at e <;> split at e <;> omega
 ·
  unfold bP eP
  congr 1; funext i l
  have : ¬ (2 + i = 1) := by omega
  simp only [id, this, if_false]
 ·
  have : ¬ (2 + i = 1) := by omega
  simp only [this, if_false]; exact hin i l h
theorem j9 {T : Nat → V} {σ : aq} {n : Nat} {x : AX} {g : List (List Int)} {j : Nat} {l : List Int} {cs : List V} (hx : aA T x = .ptr 0 j 0) (h0 : σ 0 = some (.var cs)) (hg : cs[j]? = some (.loc (2 + j) 0 l.length)) : ay (.load none x) (aA T) σ n = some (.loc (2 + j) 0 l.length, σ, n) := by
 simp only [ay, hx, bY, h0, Nat.add_zero, dw, hg, Option.map_some]
theorem pb {T : Nat → V} {σ : aq} {n : Nat} {x y : AX} {id : Nat} {la la2 : List Int} {b : Int} {m : Bool} (hx : aA T x = .loc id 0 la.length) (hy : aA T y = .d (.vec none [.int .i64 b])) (hid : σ id = some (.lst true none (la.map (D.int .i64)))) (hl : c8 la [b] = some la2) :
 ay (.append none x y m) (aA T) σ n = some (.loc n 0 la2.length, ah (ah σ id none) n (some (.lst true none (la2.map (D.int .i64)))), n + 1) := by
 unfold c8 at hl
 split at hl
 ·
  rename_i hle
  cases hl
  have e1 : dA σ none (.d (.vec none [D.int .i64 b])) = some [D.int .i64 b] := by simp [dA, dz, bK, cQ]
  simp only [ay, cW, hx, hy, e1, hid]
  rw [if_pos ⟨trivial, by simp, by simpa [dy] using hle⟩]
  simp
 ·
  cases hl
theorem l3 {T : Nat → V} {σ : aq} {n : Nat} {a x : AX} {j id len : Nat} {cs : List V} (ha : aA T a = .ptr 0 j 0) (hx : aA T x = .loc id 0 len) (h0 : σ 0 = some (.var cs)) (hj : j < cs.length) : ay (.store none a x) (aA T) σ n = some (V.undef, ah σ 0 (some (.var (cs.set j (.loc id 0 len)))), n) := by
 have e1 : dg σ none (.ptr 0 j 0) (.loc id 0 len) = some (ah σ 0 (some (.var (cs.set j (.loc id 0 len))))) := by
  unfold dg
  simp only [h0]
  rw [if_pos ⟨rfl, rfl, by show j + 0 + 1 ≤ _; omega⟩]
  have : cs.take (j + 0) ++ (V.loc id 0 len).cells ++ cs.drop (j + 0 + ag none) = cs.set j (.loc id 0 len) := sV cs j _ hj
  rw [this]
 simp [ay, ha, hx, e1]
theorem jd {α : Type} {l : List α} {i : Int} {x : α} (h : aW l i = some x) : 0 ≤ i ∧ l[i.toNat]? = some x ∧ i.toNat < l.length := by
 unfold aW at h
 split at h
 ·
  exact ⟨by assumption, h, (List.getElem?_eq_some_iff.1 h).1⟩
 ·
  cases h
theorem l7 {α : Type} {l l2 : List α} {i : Int} {x : α} (h : b7 l i x = some l2) : l2 = l.set i.toNat x ∧ i.toNat < l.length := by
 unfold b7 at h
 split at h
 ·
  split at h
  ·
   cases h; exact ⟨rfl, by assumption⟩
  ·
   cases h
 ·
  cases h
theorem pc {g : List (List Int)} {T : Nat → V} {n m : Nat} {l : List (Nat × V)} {σ : aq} {j : Nat} {r : List Int} (hj : j < g.length) (hm : m = 2 + j ∨ 2 + g.length ≤ m) (h0 : σ 0 = some (.var ((bP 2 g).set j (.loc m 0 r.length)))) (h1 : σ m = some (.lst true none (r.map (D.int .i64)))) (hin : ∀ i l, i ≠ j → g[i]? = some l → σ (2 + i) = some (.lst true none (l.map (D.int .i64))))
 (hT : TN (fun id => if id = 2 + j then m else id) (2 + (g.set j r).length) T l) : bn 0 ⟨T, σ, n⟩ ⟨tab l, oG (g.set j r), 2 + (g.set j r).length⟩ := by
 have hlen : (g.set j r).length = g.length := by simp
 refine bn.fam (fun id => if id = 2 + j then m else id) (fun id h => by omega) (fun x y hx hy e => ?_) (by omega) hT (by intro p hp; simp at hp; subst hp; show 0 < 2; decide) ⟨⟨by show 0 < _; omega, _, by simpa [show ¬ (0 = 2 + j) by omega] using h0, .locs (sU hj) rfl⟩, trivial⟩ (fun i l h => ?_)
 ·
  rw [hlen] at hx hy
  split at e <;> split at e <;> omega
 ·
  rw [List.getElem?_set] at h
  by_cases e : j = i
  ·
   subst e
   rw [if_pos rfl, if_pos hj] at h
   cases h
   simpa using h1
  ·
   rw [if_neg e] at h
   have : ¬ (2 + i = 2 + j) := by omega
   simp only [this, if_false]
   exact hin i l (Ne.symm e) h
theorem uz {g : List (List Int)} {T : Nat → V} {n m : Nat} {l : List (Nat × V)} {σ : aq} {j k : Nat} {r q : List Int} (hj : j < g.length) (hk : k < g.length) (hjk : j ≠ k) (hm : m = 2 + g.length) (h0 : σ 0 = some (.var (((bP 2 g).set j (.loc m 0 r.length)).set k (.loc (m + 1) 0 q.length)))) (h1 : σ m = some (.lst true none (r.map (D.int .i64)))) (h2 : σ (m + 1) = some (.lst true none (q.map (D.int .i64))))
 (hin : ∀ i l, i ≠ j → i ≠ k → g[i]? = some l → σ (2 + i) = some (.lst true none (l.map (D.int .i64))))
 (hT : TN (fun id => if id = 2 + j then m else if id = 2 + k then m + 1 else id) (2 + ((g.set j r).set k q).length) T l) : bn 0 ⟨T, σ, n⟩ ⟨tab l, oG ((g.set j r).set k q), 2 + ((g.set j r).set k q).length⟩ := by
 have hlen : ((g.set j r).set k q).length = g.length := by simp
 refine bn.fam (fun id => if id = 2 + j then m else if id = 2 + k then m + 1 else id) (fun id h => by omega) (fun x y hx hy e => ?_) (by omega) hT (by intro p hp; simp at hp; subst hp; show 0 < 2; decide) ⟨⟨by show 0 < _; omega, _, by simpa [show ¬ (0 = 2 + j) by omega, show ¬ (0 = 2 + k) by omega] using h0, .locs ?_ rfl⟩, trivial⟩ (fun i l h => ?_)
 ·
  rw [hlen] at hx hy
  split at e <;> split at e <;> (try split at e) <;> (try split at e) <;> omega
 ·
  apply List.ext_getElem?
  intro i
  rw [lY, List.getElem?_set, List.getElem?_set, List.getElem?_set, List.getElem?_set, List.length_set, List.length_set, fA]
  by_cases e : k = i
  ·
   subst e
   have e1 : ¬ (k = j) := fun h => hjk h.symm
   simp [hk, e1]
  ·
   rw [if_neg e, if_neg e]
   by_cases e2 : j = i
   ·
    subst e2; simp [hj]
   ·
    have e3 : ¬ (2 + i = 2 + j) := by omega
    have e4 : ¬ (2 + i = 2 + k) := by omega
    rw [if_neg e2, if_neg e2, fz, if_neg e3, if_neg e4]
 ·
  rw [List.getElem?_set, List.getElem?_set, List.length_set] at h
  by_cases e : k = i
  ·
   subst e
   rw [if_pos rfl, if_pos hk] at h
   cases h
   have e1 : ¬ (k = j) := fun h => hjk h.symm
   simpa [e1] using h2
  ·
   rw [if_neg e] at h
   by_cases e2 : j = i
   ·
    subst e2
    rw [if_pos rfl, if_pos hj] at h
    cases h
    simpa using h1
   ·
    rw [if_neg e2] at h
    have e3 : ¬ (2 + i = 2 + j) := by omega
    have e4 : ¬ (2 + i = 2 + k) := by omega
    simp only [e3, e4, if_false]
    exact hin i l (Ne.symm e2) (Ne.symm e) h
theorem VN.l0 {ρ : Nat → Nat} {n0 a b : Nat} (h : a = b) (h0 : ρ 0 = 0) (hn : 0 < n0) : VN ρ n0 (.loc 0 0 a) (.loc 0 0 b) := by
 subst h
 have := VN.loc (ρ := ρ) 0 0 a hn
 rwa [h0] at this
def uA : aX :=
 (.seq (.ops false [
  ⟨some 21, .bin .lss (.t 20) (.t 19), none⟩])
  (.seq (.cond (.t 21)
   (.skip)
   (.exit 0))
  (.seq (.block 1 (.seq (.ops false [
   ⟨some 22, .mov (.t 20), none⟩,
   ⟨some 23, .iaddr (some 4) (.t 18) (.t 20), none⟩,
   ⟨some 24, .load (some 4) (.t 23), none⟩,
   ⟨some 7, .alloc [.int .u16 0, .int .u16 0, .int .u16 0, .int .u16 0], none⟩,
   ⟨some 6, .mov (.t 22), none⟩,
   ⟨none, .store (some 4) (.t 7) (.t 24), none⟩])
   (.seq (.ops false [
    ⟨some 26, .ldI (some 3) (.t 2), none⟩,
    ⟨some 27, .iaddrA 2 (some 2) (.t 7) (.c (.int .i64 0)), none⟩,
    ⟨some 28, .faddr 0 (.t 27), none⟩,
    ⟨some 29, .load none (.t 28), none⟩,
    ⟨some 30, .call false 61 [(.t 26), (.t 29)], none⟩,
    ⟨some 25, .mov (.t 30), none⟩,
    ⟨some 31, .extract (.t 25) 0, none⟩,
    ⟨some 32, .extract (.t 25) 1, none⟩,
    ⟨some 8, .mov (.t 31), none⟩,
    ⟨some 9, .mov (.t 32), none⟩])
   (.seq (.ops false [
    ⟨some 34, .ldI (some 3) (.t 2), none⟩,
    ⟨some 35, .iaddrA 2 (some 2) (.t 7) (.c (.int .i64 1)), none⟩,
    ⟨some 36, .faddr 0 (.t 35), none⟩,
    ⟨some 37, .load none (.t 36), none⟩,
    ⟨some 38, .call false 61 [(.t 34), (.t 37)], none⟩,
    ⟨some 33, .mov (.t 38), none⟩,
    ⟨some 39, .extract (.t 33) 0, none⟩,
    ⟨some 40, .extract (.t 33) 1, none⟩,
    ⟨some 10, .mov (.t 39), none⟩,
    ⟨some 11, .mov (.t 40), none⟩])
   (.seq (.seq (.ops false [
    ⟨some 41, .mov (.t 9), none⟩,
    ⟨some 42, .un .not (.t 41), none⟩,
    ⟨some 43, .mov (.t 42), none⟩,
    ⟨some 44, .mov (.t 11), some (43, false)⟩,
    ⟨some 45, .un .not (.t 44), some (43, false)⟩,
    ⟨some 46, .pick (.t 43) (.c (.bool true)) (.t 45), none⟩,
    ⟨some 47, .mov (.t 46), none⟩,
    ⟨some 48, .mov (.t 8), some (47, false)⟩,
    ⟨some 49, .mov (.t 10), some (47, false)⟩,
    ⟨some 50, .bin .eql (.t 48) (.t 49), some (47, false)⟩,
    ⟨some 51, .pick (.t 47) (.c (.bool true)) (.t 50), none⟩,
    ⟨some 52, .mov (.t 51), none⟩,
    ⟨some 53, .mov (.t 6), some (52, false)⟩,
    ⟨some 54, .mov (.t 1), some (52, false)⟩,
    ⟨some 55, .bin .eql (.t 53) (.t 54), some (52, false)⟩,
    ⟨some 56, .pick (.t 52) (.c (.bool true)) (.t 55), none⟩])
    (.cond (.t 56)
    (.exit 1)
    (.skip)))
   (.opsS [(10, 13), (10, 14)] [
    ⟨some 57, .mov (.t 5), none⟩,
    ⟨some 58, .mov (.t 8), none⟩,
    ⟨some 59, .mov (.t 5), none⟩,
    ⟨some 60, .mov (.t 10), none⟩,
    ⟨some 61, .mov (.t 5), none⟩,
    ⟨some 62, .mov (.t 8), none⟩,
    ⟨some 63, .iaddr none (.t 61) (.t 62), none⟩,
    ⟨some 64, .load none (.t 63), none⟩,
    ⟨some 65, .mov (.t 10), none⟩,
    ⟨some 66, .bsliceI none [(.t 65)], none⟩,
    ⟨some 67, .append none (.t 64) (.t 66) false, none⟩,
    ⟨some 68, .mov (.t 5), none⟩,
    ⟨some 69, .mov (.t 10), none⟩,
    ⟨some 70, .iaddr none (.t 68) (.t 69), none⟩,
    ⟨some 71, .load none (.t 70), none⟩,
    ⟨some 72, .mov (.t 8), none⟩,
    ⟨some 73, .bsliceI none [(.t 72)], none⟩,
    ⟨some 74, .append none (.t 71) (.t 73) false, none⟩,
    ⟨some 75, .iaddr none (.t 57) (.t 58), none⟩,
    ⟨none, .store none (.t 75) (.t 67), none⟩,
    ⟨some 76, .iaddr none (.t 59) (.t 60), none⟩,
    ⟨none, .store none (.t 76) (.t 74), none⟩]))))))
  (.ops false [
   ⟨some 77, .bin .add (.t 20) (.c (.int .i64 1)), none⟩,
   ⟨some 20, .mov (.t 77), none⟩]))))
def uB : aX :=
 (.seq (.ops false [
  ⟨some 81, .bin .lss (.t 80) (.t 79), none⟩])
  (.seq (.cond (.t 81)
   (.skip)
   (.exit 2))
  (.seq (.block 3 (.seq (.ops false [
   ⟨some 82, .mov (.t 80), none⟩,
   ⟨some 12, .mov (.t 82), none⟩])
   (.seq (.ops false [
    ⟨some 83, .mov (.t 5), none⟩,
    ⟨some 84, .mov (.t 12), none⟩,
    ⟨some 85, .iaddr none (.t 83) (.t 84), none⟩,
    ⟨some 86, .load none (.t 85), none⟩,
    ⟨some 87, .call true 79 [(.t 86)], none⟩])
   (.ops false [
    ⟨some 88, .mov (.t 5), none⟩,
    ⟨some 89, .mov (.t 12), none⟩,
    ⟨some 90, .mov (.t 5), none⟩,
    ⟨some 91, .mov (.t 12), none⟩,
    ⟨some 92, .iaddr none (.t 90) (.t 91), none⟩,
    ⟨some 93, .load none (.t 92), none⟩,
    ⟨some 94, .call true 80 [(.t 93)], none⟩,
    ⟨some 95, .iaddr none (.t 88) (.t 89), none⟩,
    ⟨none, .store none (.t 95) (.t 94), none⟩]))))
  (.ops false [
   ⟨some 96, .bin .add (.t 80) (.c (.int .i64 1)), none⟩,
   ⟨some 80, .mov (.t 96), none⟩]))))
def uC : b9 := .mk 98
 (.seq (.ops false [
  ⟨some 2, .box (some 3) (.t 0) true, none⟩,
  ⟨some 4, .mov (.c (.vec none [])), none⟩])
  (.seq (.ops false [
   ⟨some 13, .faddr 0 (.t 2), none⟩,
   ⟨some 14, .ldI none (.t 13), none⟩,
   ⟨some 15, .len (.t 14), none⟩,
   ⟨some 16, .mkslV .nils (.t 15) (.t 15), none⟩,
   ⟨some 5, .mov (.t 16), none⟩])
  (.seq (.seq (.ops false [
   ⟨some 17, .faddr 1 (.t 2), none⟩,
   ⟨some 18, .ldI none (.t 17), none⟩,
   ⟨some 19, .len (.t 18), none⟩,
   ⟨some 20, .mov (.c (.int .i64 0)), none⟩])
   (.block 0 (.loop uA)))
  (.seq (.seq (.ops false [
   ⟨some 78, .mov (.t 5), none⟩,
   ⟨some 79, .len (.t 78), none⟩,
   ⟨some 80, .mov (.c (.int .i64 0)), none⟩])
   (.block 2 (.loop uB)))
  (.seq (.ops false [
   ⟨some 97, .mov (.t 5), none⟩,
   ⟨some 4, .mov (.t 97), none⟩])
  (.ret))))))
 [.t 4]
set_option maxRecDepth 100000 in
theorem uD : ca Try.prog 56 uC = true := by kernel_rfl
theorem ma {a0 : api_Topo} {a1 : Int} {r : (List (List Int))} (h : gH a0 a1 = some r) : PCall Try.prog 56 [eapi_Topo a0, .int .i64 a1] (eL none (eL none (D.int .i64)) r) := by
 refine PCall.introN uD (show 2 ≤ 98 by decide) ?_
 refine bg (s0 := ⟨tab [(0, vs1 a0), (1, vi a1)], ae [], 0⟩) (nr []) ?_
 refine ak ⟨tab [(1, vi a1), (2, ap a0)], ae [], 0⟩ ?_ ?_
 ·
  iterate 2 refine q1 _ ?_
  exact nR []
 obtain ⟨g0, hg0, h⟩ := aB h
 have hg0' : 0 ≤ (a0.Switches.length : Int) ∧ (a0.Switches.length : Int) ≤ 4294967296 ∧ g0 = List.replicate a0.Switches.length [] := by
  unfold dG at hg0
  split at hg0
  ·
   rename_i hc; cases hg0; exact ⟨hc.1, hc.2, by simp⟩
  ·
   cases hg0
 obtain ⟨hn0, hn1, hg0e⟩ := hg0'
 have hgl : g0.length = a0.Switches.length := by rw [hg0e]; simp
 refine ak ⟨tab [(1, vi a1), (2, ap a0), (5, .loc 0 0 g0.length)], oG g0, 2 + g0.length⟩ ?_ ?_
 ·
  iterate 2 refine q1 _ ?_
  refine step (v := vi (a0.Switches.length : Int)) (bR (xs := a0.Switches) (e := (D.int .u16)) rfl) ?_
  refine step (v := .loc 0 0 a0.Switches.length) (σ' := ah (ae []) 0 (some (.var (List.replicate a0.Switches.length (.d .nils))))) (n' := 1) (sK rfl rfl ⟨hn0, hn1⟩ (by simp) (by simp)) ?_
  refine q1 _ ?_
  refine aI.nil' (bn.trans (sS 2 (by show 1 ≤ 2; decide) (o := 0) (k := a0.Switches.length) (by simp [ah]) (by show 0 < 1; decide)) ?_)
  refine bn.fam id (fun _ _ => rfl) (fun x y _ _ e => e) (by omega) ⟨.d _, .d _, .le (id := 0) hgl.symm (by show 0 < _; omega), trivial⟩ (by intro p hp; simp at hp; subst hp; show 0 < 2; decide) ⟨⟨by show 0 < _; omega, _, rfl, .locs (by rw [hg0e]; rfl) rfl⟩, trivial⟩ (fun i l hl => ?_)
  have hi : i < a0.Switches.length := by have := (List.getElem?_eq_some_iff.1 hl).1; omega
  rw [hg0e, List.getElem?_replicate, if_pos hi] at hl
  cases hl
  have e1 : ¬ (2 + i = 0) := by omega
  have e2 : 2 ≤ 2 + i ∧ 2 + i < 2 + a0.Switches.length := by omega
  simp only [id, e1, e2, if_true, if_false, and_self, List.map_nil]
 clear hg0 hg0e hgl
 refine aH ?_
 refine ak ⟨tab [(1, vi a1), (2, ap a0), (5, .loc 0 0 g0.length), (18, bC a0.Links), (19, vi (a0.Links.length : Int)), (20, vi 0)], oG g0, 2 + g0.length⟩ ?_ ?_
 ·
  iterate 2 refine q1 _ ?_
  refine step (v := vi (a0.Links.length : Int)) (bR (xs := a0.Links) (e := (bF eapi_Port)) rfl) ?_
  refine q1 _ ?_
  exact aI.nil' (dX ⟨.d _, .d _, .loc 0 _ _ (by omega), .d _, .d _, .d _, trivial⟩)
 obtain ⟨z1, hl, h⟩ := aB h
 refine br ?_
 refine e7 (cC (a0.Links.length : Int)) (fun (i2 : Int) (g : List (List Int)) => ⟨tab [(1, vi a1), (2, ap a0), (5, .loc 0 0 g.length), (18, bC a0.Links), (19, vi (a0.Links.length : Int)), (20, vi i2)], oG g, 2 + g.length⟩) 0 (fun (g : List (List Int)) => ⟨tab [(5, .loc 0 0 g.length)], oG g, 2 + g.length⟩) bu cD hl (by unfold bu; omega) ?_ ?_ ?_
 ·
  rintro i2 g g9 hinv hgo h
  show aG _ _ _ _ _ ⟨tab [(1, vi a1), (2, ap a0), (5, .loc 0 0 g.length), (18, bC a0.Links), (19, vi (a0.Links.length : Int)), (20, vi i2)], oG g, 2 + g.length⟩
  have hc : decide (i2 < (a0.Links.length : Int)) = true := decide_eq_true hgo
  refine ak ⟨tab [(1, vi a1), (2, ap a0), (5, .loc 0 0 g.length), (18, bC a0.Links), (19, vi (a0.Links.length : Int)), (20, vi i2), (21, vb (decide (i2 < (a0.Links.length : Int))))], oG g, 2 + g.length⟩ ?_ ?_
  ·
   refine q1 _ ?_
   exact aI.nil' (dX ⟨.d _, .d _, .loc 0 _ _ (by omega), .d _, .d _, .d _, .d _, trivial⟩)
  refine cB 19 rfl fun hB3 => ?_
  refine aH ?_
  refine bb (t := decide (i2 < (a0.Links.length : Int))) rfl hc ?_
  refine bf ?_
  refine iO ⟨tab [(1, vi a1), (2, ap a0), (5, .loc 0 0 g9.length), (18, bC a0.Links), (19, vi (a0.Links.length : Int)), (20, vi i2)], oG g9, 2 + g9.length⟩ ?_ ?_
  ·
   refine br ?_
   obtain ⟨x8, hx8, h⟩ := aB h
   refine ak ⟨tab [(1, vi a1), (2, ap a0), (5, .loc 0 0 g.length), (6, vi i2), (7, .ptr 1 0 0), (18, bC a0.Links), (19, vi (a0.Links.length : Int)), (20, vi i2)], ic g [vh x8.a0.Sw, vh x8.a0.Pt, vh x8.a1.Sw, vh x8.a1.Pt], 2 + g.length⟩ ?_ ?_
   ·
    refine q1 _ ?_
    refine step (v := .d (.cptr (some 4) (bF eapi_Port x8) 0)) (bX (xs := a0.Links) (e := (bF eapi_Port)) hx8 rfl rfl) ?_
    refine q1 _ ?_
    refine step (v := .ptr (2 + g.length) 0 0) (σ' := (ah (oG g) (2 + g.length) (some (.var [vh 0, vh 0, vh 0, vh 0])))) (n' := 2 + g.length + 1) rfl ?_
    refine q1 _ ?_
    refine step (v := V.undef) (σ' := ah (ah (oG g) (2 + g.length) (some (.var [vh 0, vh 0, vh 0, vh 0]))) (2 + g.length) (some (.var [vh x8.a0.Sw, vh x8.a0.Pt, vh x8.a1.Sw, vh x8.a1.Pt]))) (n' := 2 + g.length + 1) ?_ ?_
    ·
     have e1 : dg (ah (oG g) (2 + g.length) (some (.var [vh 0, vh 0, vh 0, vh 0]))) (some 4) (.ptr (2 + g.length) 0 0) (.d (bF eapi_Port x8)) = some (ah (ah (oG g) (2 + g.length) (some (.var [vh 0, vh 0, vh 0, vh 0]))) (2 + g.length) (some (.var [vh x8.a0.Sw, vh x8.a0.Pt, vh x8.a1.Sw, vh x8.a1.Pt]))) := by
      unfold dg
      simp only [aJ]
      rfl
     show (dg _ (some 4) (.ptr (2 + g.length) 0 0) (.d (bF eapi_Port x8))).map _ = _
     rw [e1]; rfl
    have f0 : ∀ id, id ≠ 2 + g.length → ah (ah (oG g) (2 + g.length) (some (.var [vh 0, vh 0, vh 0, vh 0]))) (2 + g.length) (some (.var [vh x8.a0.Sw, vh x8.a0.Pt, vh x8.a1.Sw, vh x8.a1.Pt])) id = oG g id := fun id hid => by rw [aD _ _ hid, aD _ _ hid]
    exact aI.nil' (uw ((f0 0 (by omega)).trans rfl) (aJ _ _ _) (.vars ⟨.d _, .d _, .d _, .d _, trivial⟩) (fun i l hl => (f0 _ (by have := (List.getElem?_eq_some_iff.1 hl).1; omega)).trans (fP hl)) rfl ⟨.d _, .d _, .loc 0 _ _ (by omega), .d _, .ptr 1 _ _ (by omega), .d _, .d _, .d _, trivial⟩)
   obtain ⟨r1, hr1, h⟩ := aB h
   have keep1 : ∀ {T : Nat → V} {n : Nat} {l : List (Nat × V)} {cs : List V}, BN id (2 + g.length) (.var cs) (.var cs) → TN id (2 + g.length) T l → bn 0 ⟨T, ic g cs, n⟩ ⟨tab l, ic g cs, 2 + g.length⟩ := fun hcs hT =>
    o9 (by omega) hT (by intro p hp; simp at hp; rcases hp with rfl | rfl; (show 0 < 2; decide); (show 1 < 2; decide)) ⟨⟨by show 0 < _; omega, _, rfl, .locs rfl rfl⟩, ⟨by show 1 < _; omega, _, rfl, hcs⟩, trivial⟩
   have drop1 : ∀ {T : Nat → V} {n : Nat} {l : List (Nat × V)} {cs : List V}, TN id (2 + g.length) T l → bn 0 ⟨T, ic g cs, n⟩ ⟨tab l, oG g, 2 + g.length⟩ := fun hT =>
    bn.fam id (fun _ _ => rfl) (fun x y _ _ e => e) (by omega) hT (by intro p hp; simp at hp; subst hp; show 0 < 2; decide) ⟨⟨by show 0 < _; omega, _, rfl, .locs rfl rfl⟩, trivial⟩ (fun i l hl => jc hl)
   refine ak ⟨tab [(1, vi a1), (2, ap a0), (5, .loc 0 0 g.length), (6, vi i2), (7, .ptr 1 0 0), (8, vi r1.1), (9, vb r1.2), (18, bC a0.Links), (19, vi (a0.Links.length : Int)), (20, vi i2)], ic g [vh x8.a0.Sw, vh x8.a0.Pt, vh x8.a1.Sw, vh x8.a1.Pt], 2 + g.length⟩ ?_ ?_
   ·
    iterate 4 refine q1 _ ?_
    refine bI (r := .tup [.int .i64 r1.1, .bool r1.2]) (aK (aK a8.nil')) (j8 hr1) ?_
    iterate 5 refine q1 _ ?_
    exact aI.nil' (keep1 (.vars ⟨.d _, .d _, .d _, .d _, trivial⟩) ⟨.d _, .d _, .loc 0 _ _ (by omega), .d _, .ptr 1 _ _ (by omega), .d _, .d _, .d _, .d _, .d _, trivial⟩)
   obtain ⟨r2, hr2, h⟩ := aB h
   refine ak ⟨tab [(1, vi a1), (2, ap a0), (5, .loc 0 0 g.length), (6, vi i2), (8, vi r1.1), (9, vb r1.2), (10, vi r2.1), (11, vb r2.2), (18, bC a0.Links), (19, vi (a0.Links.length : Int)), (20, vi i2)], oG g, 2 + g.length⟩ ?_ ?_
   ·
    iterate 4 refine q1 _ ?_
    refine bI (r := .tup [.int .i64 r2.1, .bool r2.2]) (aK (aK a8.nil')) (j8 hr2) ?_
    iterate 5 refine q1 _ ?_
    exact aI.nil' (drop1 ⟨.d _, .d _, .loc 0 _ _ (by omega), .d _, .d _, .d _, .d _, .d _, .d _, .d _, .d _, trivial⟩)
   clear keep1 drop1
   refine aH ?_
   refine aH ?_
   have keepT : ∀ {T : Nat → V} {n : Nat}, (hT : TN id (2 + g.length) T [(1, vi a1), (2, ap a0), (5, .loc 0 0 g.length), (8, vi r1.1), (10, vi r2.1), (18, bC a0.Links), (19, vi (a0.Links.length : Int)), (20, vi i2), (56, vb ((!r1.2) || ((!r2.2) || ((r1.1 == r2.1) || (i2 == a1)))))]) → aI Try.prog [] ⟨T, oG g, n⟩ (fun s' => bn 0 s' ⟨tab [(1, vi a1), (2, ap a0), (5, .loc 0 0 g.length), (8, vi r1.1), (10, vi r2.1), (18, bC a0.Links), (19, vi (a0.Links.length : Int)), (20, vi i2), (56, vb ((!r1.2) || ((!r2.2) || ((r1.1 == r2.1) || (i2 == a1)))))], oG g, 2 + g.length⟩) := fun hT => aI.nil' (dX hT)
   refine bO ⟨tab [(1, vi a1), (2, ap a0), (5, .loc 0 0 g.length), (8, vi r1.1), (10, vi r2.1), (18, bC a0.Links), (19, vi (a0.Links.length : Int)), (20, vi i2), (56, vb ((!r1.2) || ((!r2.2) || ((r1.1 == r2.1) || (i2 == a1)))))], oG g, 2 + g.length⟩ ?_ ?_
   ·
    iterate 3 refine q1 _ ?_
    by_cases e1 : (!r1.2) = true
    ·
     iterate 2 refine qX (!r1.2) (by rw [e1]; decide) ?_
     refine step (v := vb true) (ba (b := !r1.2) rfl e1 rfl) ?_
     refine q1 _ ?_
     iterate 3 refine qX true (by decide) ?_
     refine step (v := vb true) (ba (b := true) rfl rfl rfl) ?_
     refine q1 _ ?_
     iterate 3 refine qX true (by decide) ?_
     refine step (v := vb true) (ba (b := true) rfl rfl rfl) ?_
     exact keepT ⟨.d _, .d _, .loc 0 _ _ (by omega), .d _, .d _, .d _, .d _, .d _, .eq (by rw [e1]; rfl), trivial⟩
    ·
     refine qG (!r1.2) (Bool.eq_false_iff.2 e1) ?_
     refine q1 _ ?_
     refine qG (!r1.2) (Bool.eq_false_iff.2 e1) ?_
     refine q1 _ ?_
     refine step (v := vb (!r2.2)) (bk (b := !r1.2) rfl e1 rfl) ?_
     refine q1 _ ?_
     have e1' : (!r1.2) = false := Bool.eq_false_iff.2 e1
     by_cases e2 : (!r2.2) = true
     ·
      iterate 3 refine qX (!r2.2) (by rw [e2]; decide) ?_
      refine step (v := vb true) (ba (b := !r2.2) rfl e2 rfl) ?_
      refine q1 _ ?_
      iterate 3 refine qX true (by decide) ?_
      refine step (v := vb true) (ba (b := true) rfl rfl rfl) ?_
      exact keepT ⟨.d _, .d _, .loc 0 _ _ (by omega), .d _, .d _, .d _, .d _, .d _, .eq (by rw [e1', e2]; rfl), trivial⟩
     ·
      have e2' : (!r2.2) = false := Bool.eq_false_iff.2 e2
      refine qG (!r2.2) e2' ?_
      refine q1 _ ?_
      refine qG (!r2.2) e2' ?_
      refine q1 _ ?_
      refine qG (!r2.2) e2' ?_
      refine q1 _ ?_
      refine step (v := vb (r1.1 == r2.1)) (bk (b := !r2.2) rfl e2 rfl) ?_
      refine q1 _ ?_
      by_cases e3 : (r1.1 == r2.1) = true
      ·
       iterate 3 refine qX (r1.1 == r2.1) (by rw [e3]; decide) ?_
       refine step (v := vb true) (ba (b := (r1.1 == r2.1)) rfl e3 rfl) ?_
       exact keepT ⟨.d _, .d _, .loc 0 _ _ (by omega), .d _, .d _, .d _, .d _, .d _, .eq (by rw [e1', e2', e3]; rfl), trivial⟩
      ·
       have e3' : (r1.1 == r2.1) = false := Bool.eq_false_iff.2 e3
       refine qG (r1.1 == r2.1) e3' ?_
       refine q1 _ ?_
       refine qG (r1.1 == r2.1) e3' ?_
       refine q1 _ ?_
       refine qG (r1.1 == r2.1) e3' ?_
       refine q1 _ ?_
       refine step (v := vb (i2 == a1)) (bk (b := (r1.1 == r2.1)) rfl e3 rfl) ?_
       exact keepT ⟨.d _, .d _, .loc 0 _ _ (by omega), .d _, .d _, .d _, .d _, .d _, .eq (by rw [e1', e2', e3']; rfl), trivial⟩
   clear keepT
   by_cases hcc : ((!r1.2) || ((!r2.2) || ((r1.1 == r2.1) || (i2 == a1)))) = true
   ·
    replace h := bo hcc h
    cases h
    refine bb rfl hcc ?_
    refine bg (s0 := ⟨tab [(1, vi a1), (2, ap a0), (5, .loc 0 0 g.length), (18, bC a0.Links), (19, vi (a0.Links.length : Int)), (20, vi i2)], oG g, 2 + g.length⟩) (dX ⟨.d _, .d _, .loc 0 _ _ (by omega), .d _, .d _, .d _, trivial⟩) ?_
    refine ce ?_
    exact And.intro rfl rfl
   ·
    replace h := bp hcc h
    have hne : r1.1 ≠ r2.1 := by
     intro e
     apply hcc
     have : (r1.1 == r2.1) = true := by simp [e]
     rw [this]; simp
    refine bd rfl hcc ?_
    refine bf ?_
    obtain ⟨la, hla, h⟩ := aB h
    obtain ⟨la2, hla2, h⟩ := aB h
    obtain ⟨lb, hlb, h⟩ := aB h
    obtain ⟨lb2, hlb2, h⟩ := aB h
    obtain ⟨g2, hg2, h⟩ := aB h
    obtain ⟨p1, p2, p3⟩ := jd hla
    obtain ⟨q1', q2', q3'⟩ := jd hlb
    obtain ⟨hg2e, _⟩ := l7 hg2
    obtain ⟨hg9e, _⟩ := l7 h
    subst hg2e
    have hjk : r1.1.toNat ≠ r2.1.toNat := by omega
    generalize hn : 2 + g.length = n
    have hna : 2 + r1.1.toNat ≠ n := by omega
    have hnb : 2 + r2.1.toNat ≠ n := by omega
    have hab : 2 + r2.1.toNat ≠ 2 + r1.1.toNat := by omega
    obtain ⟨σ1, hσ1⟩ : ∃ σ1, σ1 = ah (ah (oG g) (2 + r1.1.toNat) none) n (some (.lst true none (la2.map (D.int .i64)))) := ⟨_, rfl⟩
    obtain ⟨σ2, hσ2⟩ : ∃ σ2, σ2 = ah (ah σ1 (2 + r2.1.toNat) none) (n + 1) (some (.lst true none (lb2.map (D.int .i64)))) := ⟨_, rfl⟩
    have z0 : oG g 0 = some (.var (bP 2 g)) := rfl
    have z1 : σ1 0 = some (.var (bP 2 g)) := by rw [hσ1, aD _ _ (by omega), aD _ _ (by omega)]; rfl
    have z2 : σ2 0 = some (.var (bP 2 g)) := by rw [hσ2, aD _ _ (by omega), aD _ _ (by omega)]; exact z1
    have zb : σ1 (2 + r2.1.toNat) = some (.lst true none (lb.map (D.int .i64))) := by rw [hσ1, aD _ _ hnb, aD _ _ hab]; exact fP q2'
    obtain ⟨σ3, hσ3⟩ : ∃ σ3, σ3 = ah σ2 0 (some (.var ((bP 2 g).set r1.1.toNat (.loc n 0 la2.length)))) := ⟨_, rfl⟩
    obtain ⟨σ4, hσ4⟩ : ∃ σ4, σ4 = ah σ3 0 (some (.var (((bP 2 g).set r1.1.toNat (.loc n 0 la2.length)).set r2.1.toNat (.loc (n + 1) 0 lb2.length)))) := ⟨_, rfl⟩
    refine o6 ⟨tab [(1, vi a1), (2, ap a0), (5, .loc 0 0 g9.length), (18, bC a0.Links), (19, vi (a0.Links.length : Int)), (20, vi i2)], oG g9, 2 + g9.length⟩ ?_ (And.intro rfl rfl)
    iterate 6 refine cd (v := _) [] [] rfl rfl rfl ?_
    refine cd (v := .ptr 0 r1.1.toNat 0) [0] [] (gF (m := g.length) rfl z0 rfl ⟨p1, by omega⟩ rfl) rfl rfl ?_
    refine cd (v := .loc (2 + r1.1.toNat) 0 la.length) [0] [] (j9 (g := g) rfl z0 (by rw [fz, p2]; rfl)) rfl rfl ?_
    iterate 2 refine cd (v := _) [] [] rfl rfl rfl ?_
    refine cd (v := .loc n 0 la2.length) (σ' := σ1) (n' := n + 1) [2 + r1.1.toNat] [2 + r1.1.toNat] (by rw [hσ1]; exact pb rfl rfl (fP p2) hla2) rfl rfl ?_
    iterate 2 refine cd (v := _) [] [] rfl rfl rfl ?_
    refine cd (v := .ptr 0 r2.1.toNat 0) [0] [] (gF (m := g.length) rfl z1 rfl ⟨q1', by omega⟩ rfl) rfl rfl ?_
    refine cd (v := .loc (2 + r2.1.toNat) 0 lb.length) [0] [] (j9 (g := g) rfl z1 (by rw [fz, q2']; rfl)) rfl rfl ?_
    iterate 2 refine cd (v := _) [] [] rfl rfl rfl ?_
    refine cd (v := .loc (n + 1) 0 lb2.length) (σ' := σ2) (n' := n + 1 + 1) [2 + r2.1.toNat] [2 + r2.1.toNat] (by rw [hσ2]; exact pb rfl rfl zb hlb2) rfl rfl ?_
    refine cd (v := .ptr 0 r1.1.toNat 0) [0] [] (gF (m := g.length) rfl z2 rfl ⟨p1, by omega⟩ rfl) rfl rfl ?_
    refine cd (v := V.undef) (σ' := σ3) (n' := n + 1 + 1) [0] [0] (by rw [hσ3]; exact l3 rfl rfl z2 (by rw [fA]; exact p3)) rfl rfl ?_
    have z3 : σ3 0 = some (.var ((bP 2 g).set r1.1.toNat (.loc n 0 la2.length))) := by rw [hσ3, aJ]
    refine cd (v := .ptr 0 r2.1.toNat 0) [0] [] (gF (m := g.length) rfl z3 rfl ⟨q1', by omega⟩ rfl) rfl rfl ?_
    refine cd (v := V.undef) (σ' := σ4) (n' := n + 1 + 1) [0] [0] (by rw [hσ4]; exact l3 rfl rfl z3 (by rw [List.length_set, fA]; exact q3')) rfl rfl ?_
    refine cb.nil' ⟨?_, ?_⟩
    ·
     have b1 : ¬ (2 + r1.1.toNat = 0) := by omega
     have b2 : ¬ (n = 0) := by omega
     have b3 : ¬ (n ≤ 0) := by omega
     have b5 : 2 + r1.1.toNat < n + 1 := by omega
     simp [lV, lT, b1, b2, b3, b5]
    ·
     subst hg9e
     have hlen : ((g.set r1.1.toNat la2).set r2.1.toNat lb2).length = g.length := by simp
     refine uz p3 q3' hjk hn.symm (by rw [hσ4, aJ]) ?_ ?_ (fun i l hi1 hi2 hl => ?_) ⟨.d _, .d _, .l0 hlen.symm (by show ite _ _ _ = 0; rw [if_neg (by omega), if_neg (by omega)]) (by omega), .d _, .d _, .d _, trivial⟩
     ·
      rw [hσ4, hσ3, aD _ _ (by omega), aD _ _ (by omega), hσ2, aD _ _ (by omega), aD _ _ (Ne.symm hnb), hσ1, aJ]
     ·
      rw [hσ4, hσ3, aD _ _ (by omega), aD _ _ (by omega), hσ2, aJ]
     ·
      have hil := (List.getElem?_eq_some_iff.1 hl).1
      rw [hσ4, hσ3, aD _ _ (by omega), aD _ _ (by omega), hσ2, aD _ _ (by omega), aD _ _ (by omega), hσ1, aD _ _ (by omega), aD _ _ (by omega)]
      exact fP hl
  ·
   refine bO ⟨tab [(1, vi a1), (2, ap a0), (5, .loc 0 0 g9.length), (18, bC a0.Links), (19, vi (a0.Links.length : Int)), (20, vi (i2 + 1))], oG g9, 2 + g9.length⟩ ?_ ?_
   ·
    refine step (v := vi (i2 + 1)) (cx (cz hinv hgo hB3) rfl rfl) ?_
    refine q1 _ ?_
    exact aI.nil' (dX ⟨.d _, .d _, .loc 0 _ _ (by omega), .d _, .d _, .d _, trivial⟩)
   exact And.intro rfl rfl
 ·
  rintro i2 g hinv hgo
  show aG _ _ _ _ _ ⟨tab [(1, vi a1), (2, ap a0), (5, .loc 0 0 g.length), (18, bC a0.Links), (19, vi (a0.Links.length : Int)), (20, vi i2)], oG g, 2 + g.length⟩
  have hc : ¬ (decide (i2 < (a0.Links.length : Int)) = true) := fun hq => hgo (of_decide_eq_true hq)
  refine ak ⟨tab [(5, .loc 0 0 g.length), (21, vb (decide (i2 < (a0.Links.length : Int))))], oG g, 2 + g.length⟩ ?_ ?_
  ·
   refine q1 _ ?_
   exact aI.nil' (dX ⟨.loc 0 _ _ (by omega), .d _, trivial⟩)
  refine aH ?_
  refine bd rfl hc ?_
  refine bg (s0 := ⟨tab [(5, .loc 0 0 g.length)], oG g, 2 + g.length⟩) (dX ⟨.loc 0 _ _ (by omega), trivial⟩) ?_
  refine ce ?_
  exact And.intro rfl rfl
 refine aH ?_
 refine ak ⟨tab [(5, .loc 0 0 z1.length), (79, vi (z1.length : Int)), (80, vi 0)], oG z1, 2 + z1.length⟩ ?_ ?_
 ·
  iterate 3 refine q1 _ ?_
  exact aI.nil' (dX ⟨.loc 0 _ _ (by omega), .d _, .d _, trivial⟩)
 obtain ⟨z2, hl2, h⟩ := aB h
 have hh := aC h
 subst hh
 refine br ?_
 refine e7 (cC (z1.length : Int)) (fun (i2 : Int) (g : List (List Int)) => ⟨tab [(5, .loc 0 0 g.length), (79, vi (z1.length : Int)), (80, vi i2)], oG g, 2 + g.length⟩) 2 (fun (g : List (List Int)) => ⟨tab [(5, .loc 0 0 g.length)], oG g, 2 + g.length⟩) bu cD hl2 (by unfold bu; omega) ?_ ?_ ?_
 ·
  rintro i2 g g9 hinv hgo h
  show aG _ _ _ _ _ ⟨tab [(5, .loc 0 0 g.length), (79, vi (z1.length : Int)), (80, vi i2)], oG g, 2 + g.length⟩
  have hc : decide (i2 < (z1.length : Int)) = true := decide_eq_true hgo
  refine ak ⟨tab [(5, .loc 0 0 g.length), (79, vi (z1.length : Int)), (80, vi i2), (81, vb (decide (i2 < (z1.length : Int))))], oG g, 2 + g.length⟩ ?_ ?_
  ·
   refine q1 _ ?_
   exact aI.nil' (dX ⟨.loc 0 _ _ (by omega), .d _, .d _, .d _, trivial⟩)
  refine cB 79 rfl fun hB3 => ?_
  refine aH ?_
  refine bb rfl hc ?_
  refine bf ?_
  refine iO ⟨tab [(5, .loc 0 0 g9.length), (79, vi (z1.length : Int)), (80, vi i2)], oG g9, 2 + g9.length⟩ ?_ ?_
  ·
   refine br ?_
   obtain ⟨l, hla, h⟩ := aB h
   split at h
   ·
    rename_i hll
    obtain ⟨r8, hr8, h⟩ := aB h
    obtain ⟨p1, p2, p3⟩ := jd hla
    obtain ⟨hg9e, _⟩ := l7 h
    refine ak ⟨tab [(5, .loc 0 0 g.length), (12, vi i2), (79, vi (z1.length : Int)), (80, vi i2)], oG g, 2 + g.length⟩ ?_ ?_
    ·
     iterate 2 refine q1 _ ?_
     exact aI.nil' (dX ⟨.loc 0 _ _ (by omega), .d _, .d _, .d _, trivial⟩)
    have hset1 : (g.set i2.toNat (b4 l)).length = g.length := by simp
    have hs5 : (b4 l).length = l.length := (fX l).length_eq
    have gs : (g.set i2.toNat (b4 l))[i2.toNat]? = some (b4 l) := by rw [List.getElem?_set_self p3]
    refine ak ⟨tab [(5, .loc 0 0 (g.set i2.toNat (b4 l)).length), (12, vi i2), (79, vi (z1.length : Int)), (80, vi i2)], oG (g.set i2.toNat (b4 l)), 2 + (g.set i2.toNat (b4 l)).length⟩ ?_ ?_
    ·
     iterate 2 refine q1 _ ?_
     refine step (v := .ptr 0 i2.toNat 0) (gF (m := g.length) rfl (show oG g 0 = some (.var (bP 2 g)) from rfl) rfl ⟨p1, by omega⟩ rfl) ?_
     refine step (v := .loc (2 + i2.toNat) 0 l.length) (j9 (g := g) rfl (show oG g 0 = some (.var (bP 2 g)) from rfl) (by rw [fz, p2]; rfl)) ?_
     refine lj (v := .d (.tup [])) (σ' := ah (ah (oG g) (2 + i2.toNat) none) (2 + i2.toNat) (some (.lst true none ((b4 l).map (D.int .i64))))) (n' := 2 + g.length) (oe [2 + i2.toNat] (s6 (by omega)) (show 1 ≤ 1 by decide) (by simp) (by intro q hq; simp at hq; omega) (oy (show 0 < 1 by decide) oz) (cT.c (.loc 0 _ _ (by show 0 < 1; decide)) cT.nil0) (SN.c (by show 0 < 1; decide) (fP p2) (.lst _ _ _) SN.nil0)) (Nat.le_refl _) ?_
     refine aI.nil' (pc (m := 2 + i2.toNat) p3 (.inl rfl) ?_ (aJ _ _ _) (fun i l' hi hl' => ?_) ⟨.l0 hset1.symm (by show ite _ _ _ = 0; rw [if_neg (by omega)]) (by omega), .d _, .d _, .d _, trivial⟩)
     ·
      rw [aD _ _ (by omega), aD _ _ (by omega)]
      show some (aR.var (bP 2 g)) = _
      congr 2
      apply List.ext_getElem?
      intro i
      rw [List.getElem?_set, fA]
      by_cases e : i2.toNat = i
      ·
       subst e; rw [if_pos rfl, if_pos p3, fz, p2, hs5]; rfl
      ·
       rw [if_neg e]
     ·
      rw [aD _ _ (by omega), aD _ _ (by omega)]; exact fP hl'
    have p3' : i2.toNat < (g.set i2.toNat (b4 l)).length := by rw [hset1]; exact p3
    have hss : (g.set i2.toNat (b4 l)).set i2.toNat r8 = g9 := by rw [hg9e, List.set_set]
    have hset2 : g9.length = (g.set i2.toNat (b4 l)).length := by rw [← hss]; simp
    clear hg9e h hla p2 hset1
    generalize g.set i2.toNat (b4 l) = g3 at *
    refine bO ⟨tab [(5, .loc 0 0 g9.length), (79, vi (z1.length : Int)), (80, vi i2)], oG g9, 2 + g9.length⟩ ?_ (And.intro rfl rfl)
    iterate 4 refine q1 _ ?_
    refine step (v := .ptr 0 i2.toNat 0) (gF (m := g3.length) rfl (show oG g3 0 = some (.var (bP 2 g3)) from rfl) rfl ⟨p1, by omega⟩ rfl) ?_
    refine step (v := .loc (2 + i2.toNat) 0 (b4 l).length) (j9 (g := g3) rfl (show oG g3 0 = some (.var (bP 2 g3)) from rfl) (by rw [fz, gs]; rfl)) ?_
    refine lj (v := .loc (2 + i2.toNat) 0 r8.length) (σ' := ah (ah (oG g3) (2 + i2.toNat) none) (2 + i2.toNat) (some (.lst true none (r8.map (D.int .i64))))) (n' := 2 + g3.length) (oe [2 + i2.toNat] (uv hr8) (show 1 ≤ 1 by decide) (by simp) (by intro q hq; simp at hq; omega) (oy (show 0 < 1 by decide) oz) (cT.c (.loc 0 _ _ (by show 0 < 1; decide)) cT.nil0) (SN.c (by show 0 < 1; decide) (fP gs) (.lst _ _ _) SN.nil0)) (Nat.le_refl _) ?_
    have y0 : ah (ah (oG g3) (2 + i2.toNat) none) (2 + i2.toNat) (some (.lst true none (r8.map (D.int .i64)))) 0 = some (.var (bP 2 g3)) := by rw [aD _ _ (by omega), aD _ _ (by omega)]; rfl
    refine step (v := .ptr 0 i2.toNat 0) (gF (m := g3.length) rfl y0 rfl ⟨p1, by omega⟩ rfl) ?_
    refine step (v := V.undef) (σ' := ah (ah (ah (oG g3) (2 + i2.toNat) none) (2 + i2.toNat) (some (.lst true none (r8.map (D.int .i64))))) 0 (some (.var ((bP 2 g3).set i2.toNat (.loc (2 + i2.toNat) 0 r8.length))))) (n' := 2 + g3.length) (l3 rfl rfl y0 (by rw [fA]; exact p3')) ?_
    subst hss
    refine aI.nil' (pc (m := 2 + i2.toNat) p3' (.inl rfl) (aJ _ _ _) ?_ (fun i l' hi hl' => ?_) ⟨.l0 hset2.symm (by show ite _ _ _ = 0; rw [if_neg (by omega)]) (by omega), .d _, .d _, trivial⟩)
    ·
     rw [aD _ _ (by omega), aJ]
    ·
     rw [aD _ _ (by omega), aD _ _ (by omega), aD _ _ (by omega)]; exact fP hl'
   ·
    cases h
  ·
   refine bO ⟨tab [(5, .loc 0 0 g9.length), (79, vi (z1.length : Int)), (80, vi (i2 + 1))], oG g9, 2 + g9.length⟩ ?_ ?_
   ·
    refine step (v := vi (i2 + 1)) (cx (cz hinv hgo hB3) rfl rfl) ?_
    refine q1 _ ?_
    exact aI.nil' (dX ⟨.loc 0 _ _ (by omega), .d _, .d _, trivial⟩)
   exact And.intro rfl rfl
 ·
  rintro i2 g hinv hgo
  show aG _ _ _ _ _ ⟨tab [(5, .loc 0 0 g.length), (79, vi (z1.length : Int)), (80, vi i2)], oG g, 2 + g.length⟩
  have hc : ¬ (decide (i2 < (z1.length : Int)) = true) := fun hq => hgo (of_decide_eq_true hq)
  refine ak ⟨tab [(5, .loc 0 0 g.length), (81, vb (decide (i2 < (z1.length : Int))))], oG g, 2 + g.length⟩ ?_ ?_
  ·
   refine q1 _ ?_
   exact aI.nil' (dX ⟨.loc 0 _ _ (by omega), .d _, trivial⟩)
  refine aH ?_
  refine bd rfl hc ?_
  refine bg (s0 := ⟨tab [(5, .loc 0 0 g.length)], oG g, 2 + g.length⟩) (dX ⟨.loc 0 _ _ (by omega), trivial⟩) ?_
  refine ce ?_
  exact And.intro rfl rfl
 refine ak ⟨tab [(4, .loc 0 0 z2.length)], oG z2, 2 + z2.length⟩ ?_ ?_
 ·
  iterate 2 refine q1 _ ?_
  exact aI.nil' (dX ⟨.loc 0 _ _ (by omega), trivial⟩)
 refine bA ?_
 show FQ _ _ _ _
 refine bZ (.inr rfl) (bh (v := .loc 0 0 z2.length) rfl rfl) ?_
 refine sJ (show oG z2 0 = some (.var (bP 2 z2)) from rfl) (by rw [fA]) sT ?_ (by trivial)
 rw [List.all_eq_true]
 intro d hd
 obtain ⟨l, _, rfl⟩ := List.mem_map.1 hd
 rfl
theorem je {a0 : (List (List Int))} {a1 : Int} {r : Bool} (h : eg a0 a1 = some r) : PCall Try.prog 57 [eL none (eL none (D.int .i64)) a0, .int .i64 a1] (.bool r) := by
 refine PCall.introN ti (show 2 ≤ 13 by decide) ?_
 refine bg (s0 := ⟨tab [(0, .d (eL none (eL none (D.int .i64)) a0)), (1, vi a1)], ae [], 0⟩) (nr []) ?_
 refine ak ⟨tab [(0, .d (eL none (eL none (D.int .i64)) a0)), (1, vi a1)], ae [], 0⟩ ?_ ?_
 ·
  refine q1 _ ?_
  exact nR []
 refine ak ⟨tab [(4, vb ((decide (a1 ≥ 0)) && (decide (a1 < (a0.length : Int)))))], ae [], 0⟩ ?_ ?_
 ·
  iterate 3 refine q1 _ ?_
  by_cases hg1 : decide (a1 ≥ 0) = true
  ·
   refine qG _ hg1 ?_
   refine q1 _ ?_
   refine qG _ hg1 ?_
   refine q1 _ ?_
   refine qG _ hg1 ?_
   refine step (v := vi (a0.length : Int)) (bR (xs := a0) (e := (eL none (D.int .i64))) rfl) ?_
   refine qG _ hg1 ?_
   refine q1 _ ?_
   refine step (v := vb (decide (a1 < (a0.length : Int)))) (ba (b := decide (a1 ≥ 0)) rfl hg1 rfl) ?_
   refine q1 _ ?_
   exact aI.nil' (nm [] ⟨.eq (by first | (simp [hg1]; done) | (simp_all; done) | grind), trivial⟩ trivial)
  ·
   iterate 4 refine qX _ hg1 ?_
   refine step (v := vb false) (bk (b := decide (a1 ≥ 0)) rfl hg1 rfl) ?_
   refine q1 _ ?_
   exact aI.nil' (nm [] ⟨.eq (by first | (simp [hg1]; done) | (simp_all; done) | grind), trivial⟩ trivial)
 have hh := aC h
 subst hh
 refine bA ?_
 show FQ _ _ _ _
 exact bZ (.inr rfl) (bh (v := vb ((decide (a1 ≥ 0)) && (decide (a1 < (a0.length : Int))))) rfl rfl) (RV.d trivial)
@[reducible] def fS (g : List D) (d q : List Int) : aq := ae [(0, .lst true none (List.map (D.int .i64) d)), (1, .lst false none (g ++ List.map (D.int .i64) q))]
theorem uE {T : Nat → V} {n : Nat} {x y : AX} {g : List D} {d q : List Int} {i : Int} {k : Int} (hx : aA T x = .loc 1 g.length q.length) (hy : aA T y = vi i) (h : aW q i = some k) : ay (.iaddr none x y) (aA T) (fS g d q) n = some (.ptr 1 (g.length + i.toNat) 0, fS g d q, n) := by
 obtain ⟨h1, _, h3⟩ := jd h
 have hk : bK (fS g d q) (.loc 1 g.length q.length) = some none := rfl
 simp only [ay, hx, hy, hk]
 rw [if_pos ⟨trivial, h1, by omega⟩]
theorem uF {T : Nat → V} {n : Nat} {x : AX} {g : List D} {d q : List Int} {i : Int} {k : Int} (hx : aA T x = .ptr 1 (g.length + i.toNat) 0) (h : aW q i = some k) : ay (.load none x) (aA T) (fS g d q) n = some (vi k, fS g d q, n) := by
 obtain ⟨h1, h2, h3⟩ := jd h
 have e : (g ++ List.map (D.int .i64) q)[g.length + i.toNat]? = some (.int .i64 k) := by
  rw [List.getElem?_append_right (by omega), Nat.add_sub_cancel_left, List.getElem?_map, h2]; rfl
 have e2 : bY (fS g d q) none (.ptr 1 (g.length + i.toNat) 0) = some (vi k) := by
  show (match (g ++ List.map (D.int .i64) q)[g.length + i.toNat]? with | some d => (ek none d 0 none).map V.d | none => none) = _
  rw [e]; rfl
 simp [ay, hx, e2]
theorem uG {T : Nat → V} {n : Nat} {x : AX} {g : List D} {d q q2 : List Int} (hx : aA T x = .loc 1 g.length q.length) (h : cJ q 1 (q.length : Int) = some q2) : ay (.slc none x (some (.c (.int .i64 1))) none) (aA T) (fS g d q) n = some (.loc 1 (g.length + 1) q2.length, fS g d q, n) := by
 unfold cJ at h
 split at h
 ·
  rename_i hc
  cases h
  have hk : bK (fS g d q) (.loc 1 g.length q.length) = some none := rfl
  have hb : dh q.length ((some (AX.c (.int .i64 1))).map (aA T)) (Option.map (aA T) none) = some (1, q.length) := by
   have h1 : (1 : Int) ≤ q.length := by omega
   simp [dh, aA, eH, h1]
  simp only [ay, hx, hk, hb, if_true]
  have : List.length (List.take ((q.length : Int).toNat - Int.toNat 1) (List.drop (Int.toNat 1) q)) = q.length - 1 := by simp
  rw [this]
 ·
  cases h
theorem uH {q q2 : List Int} (h : cJ q 1 (q.length : Int) = some q2) : ∃ x, q = x :: q2 := by
 unfold cJ at h
 split at h
 ·
  rename_i hc
  cases h
  cases q with
  | nil => simp at hc
  | cons x q => exact ⟨x, by simp⟩
 ·
  cases h
def uI : aX :=
 (.seq (.ops false [
  ⟨some 17, .bin .lss (.t 16) (.t 15), none⟩])
  (.seq (.cond (.t 17)
   (.skip)
   (.exit 0))
  (.seq (.block 1 (.seq (.ops false [
   ⟨some 18, .mov (.t 16), none⟩,
   ⟨some 6, .mov (.t 18), none⟩])
   (.ops false [
    ⟨some 19, .mov (.t 5), none⟩,
    ⟨some 20, .mov (.t 6), none⟩,
    ⟨some 21, .iaddr none (.t 19) (.t 20), none⟩,
    ⟨none, .store none (.t 21) (.c (.int .i64 (-1))), none⟩])))
  (.ops false [
   ⟨some 22, .bin .add (.t 16) (.c (.int .i64 1)), none⟩,
   ⟨some 16, .mov (.t 22), none⟩]))))
def uJ : aX :=
 (.seq (.ops false [
  ⟨some 47, .bin .lss (.t 46) (.t 45), none⟩])
  (.seq (.cond (.t 47)
   (.skip)
   (.exit 4))
  (.seq (.block 5 (.seq (.ops false [
   ⟨some 48, .iaddr none (.t 44) (.t 46), none⟩,
   ⟨some 49, .load none (.t 48), none⟩,
   ⟨some 10, .mov (.t 49), none⟩])
   (.seq (.ops false [
    ⟨some 50, .mov (.t 5), none⟩,
    ⟨some 51, .mov (.t 10), none⟩,
    ⟨some 52, .iaddr none (.t 50) (.t 51), none⟩,
    ⟨some 53, .load none (.t 52), none⟩,
    ⟨some 54, .bin .lss (.t 53) (.c (.int .i64 0)), none⟩])
   (.cond (.t 54)
   (.seq (.ops false [
    ⟨some 55, .mov (.t 5), none⟩,
    ⟨some 56, .mov (.t 10), none⟩,
    ⟨some 57, .mov (.t 5), none⟩,
    ⟨some 58, .mov (.t 8), none⟩,
    ⟨some 59, .iaddr none (.t 57) (.t 58), none⟩,
    ⟨some 60, .load none (.t 59), none⟩,
    ⟨some 61, .bin .add (.t 60) (.c (.int .i64 1)), none⟩,
    ⟨some 62, .iaddr none (.t 55) (.t 56), none⟩,
    ⟨none, .store none (.t 62) (.t 61), none⟩])
    (.ops false [
     ⟨some 63, .mov (.t 7), none⟩,
     ⟨some 64, .mov (.t 10), none⟩,
     ⟨some 65, .bsliceI none [(.t 64)], none⟩,
     ⟨some 66, .append none (.t 63) (.t 65) false, none⟩,
     ⟨some 7, .mov (.t 66), none⟩]))
   (.skip)))))
  (.ops false [
   ⟨some 67, .bin .add (.t 46) (.c (.int .i64 1)), none⟩,
   ⟨some 46, .mov (.t 67), none⟩]))))
def uK : aX :=
 (.seq (.seq (.ops false [
  ⟨some 33, .mov (.t 7), none⟩,
  ⟨some 34, .len (.t 33), none⟩,
  ⟨some 35, .bin .gtr (.t 34) (.c (.int .i64 0)), none⟩])
  (.cond (.t 35)
  (.skip)
  (.exit 2)))
  (.seq (.block 3 (.seq (.ops false [
   ⟨some 38, .mov (.t 7), none⟩,
   ⟨some 39, .iaddr none (.t 38) (.c (.int .i64 0)), none⟩,
   ⟨some 40, .load none (.t 39), none⟩,
   ⟨some 8, .mov (.t 40), none⟩])
   (.seq (.ops false [
    ⟨some 41, .mov (.t 0), none⟩,
    ⟨some 42, .mov (.t 8), none⟩,
    ⟨some 43, .iaddr none (.t 41) (.t 42), none⟩,
    ⟨some 44, .load none (.t 43), none⟩,
    ⟨some 45, .len (.t 44), none⟩,
    ⟨some 46, .mov (.c (.int .i64 0)), none⟩])
   (.block 4 (.loop uJ)))))
  (.ops false [
   ⟨some 36, .mov (.t 7), none⟩,
   ⟨some 37, .slc none (.t 36) (some (.c (.int .i64 1))) none, none⟩,
   ⟨some 7, .mov (.t 37), none⟩])))
def uL : b9 := .mk 69
 (.seq (.ops false [
  ⟨some 4, .mov (.c (.vec none [])), none⟩])
  (.seq (.ops false [
   ⟨some 11, .mov (.t 0), none⟩,
   ⟨some 12, .len (.t 11), none⟩,
   ⟨some 13, .mkslice none (.int .i64 0) (.t 12) (.t 12), none⟩,
   ⟨some 5, .mov (.t 13), none⟩])
  (.seq (.seq (.ops false [
   ⟨some 14, .mov (.t 5), none⟩,
   ⟨some 15, .len (.t 14), none⟩,
   ⟨some 16, .mov (.c (.int .i64 0)), none⟩])
   (.block 0 (.loop uI)))
  (.seq (.seq (.ops false [
   ⟨some 23, .mov (.t 0), none⟩,
   ⟨some 24, .mov (.t 1), none⟩,
   ⟨some 25, .call false 57 [(.t 23), (.t 24)], none⟩,
   ⟨some 26, .un .not (.t 25), none⟩])
   (.cond (.t 26)
   (.seq (.ops false [
    ⟨some 27, .mov (.t 5), none⟩,
    ⟨some 4, .mov (.t 27), none⟩])
    (.ret))
   (.skip)))
  (.seq (.ops false [
   ⟨some 28, .mov (.t 5), none⟩,
   ⟨some 29, .mov (.t 1), none⟩,
   ⟨some 30, .iaddr none (.t 28) (.t 29), none⟩,
   ⟨none, .store none (.t 30) (.c (.int .i64 0)), none⟩])
  (.seq (.seq (.ops false [
   ⟨some 31, .mov (.t 1), none⟩,
   ⟨some 32, .bslice none [(.t 31)] false, none⟩,
   ⟨some 7, .mov (.t 32), none⟩])
   (.block 2 (.loop uK)))
  (.seq (.ops false [
   ⟨some 68, .mov (.t 5), none⟩,
   ⟨some 4, .mov (.t 68), none⟩])
  (.ret))))))))
 [.t 4]
set_option maxRecDepth 100000 in
theorem uM : ca Try.prog 58 uL = true := by kernel_rfl
theorem mb {a0 : (List (List Int))} {a1 : Int} {r : (List Int)} (h : gI a0 a1 = some r) : PCall Try.prog 58 [eL none (eL none (D.int .i64)) a0, .int .i64 a1] (eL none (D.int .i64) r) := by
 refine PCall.introN uM (show 2 ≤ 69 by decide) ?_
 refine bg (s0 := ⟨tab [(0, .d (eL none (eL none (D.int .i64)) a0)), (1, vi a1)], ae [], 0⟩) (nr []) ?_
 refine ak ⟨tab [(0, .d (eL none (eL none (D.int .i64)) a0)), (1, vi a1)], ae [], 0⟩ ?_ ?_
 ·
  refine q1 _ ?_
  exact nR []
 obtain ⟨l5, hl5, h⟩ := aB h
 refine ak ⟨tab [(0, .d (eL none (eL none (D.int .i64)) a0)), (1, vi a1), (5, .loc 0 0 l5.length)], ae [(0, .lst true none (List.map (D.int .i64) l5))], 1⟩ ?_ ?_
 ·
  refine q1 _ ?_
  refine step (v := vi (a0.length : Int)) (bR (xs := a0) (e := (eL none (D.int .i64))) rfl) ?_
  refine step (v := .loc 0 0 l5.length) (σ' := (ah (ae []) 0 (some (.lst true none (List.map (D.int .i64) l5))))) (n' := 1) (ol (e := (D.int .i64)) (z := 0) hl5 rfl rfl (ot hl5)) ?_
  refine q1 _ ?_
  exact nR [0]
 refine aH ?_
 refine ak ⟨tab [(0, .d (eL none (eL none (D.int .i64)) a0)), (1, vi a1), (5, .loc 0 0 l5.length), (15, vi (l5.length : Int)), (16, vi 0)], ae [(0, .lst true none (List.map (D.int .i64) l5))], 1⟩ ?_ ?_
 ·
  iterate 3 refine q1 _ ?_
  exact nR [0]
 obtain ⟨z15, hl, h⟩ := aB h
 refine br ?_
 refine e7 (cC (l5.length : Int)) (fun (i7 : Int) (qq : (List Int)) => ⟨tab [(0, .d (eL none (eL none (D.int .i64)) a0)), (1, vi a1), (5, .loc 0 0 qq.length), (15, vi (l5.length : Int)), (16, vi i7)], ae [(0, .lst true none (List.map (D.int .i64) qq))], 1⟩) 0 (fun (qq : (List Int)) => ⟨tab [(0, .d (eL none (eL none (D.int .i64)) a0)), (1, vi a1), (5, .loc 0 0 qq.length)], ae [(0, .lst true none (List.map (D.int .i64) qq))], 1⟩) bu cD hl (by unfold bu; omega) ?_ ?_ ?_
 ·
  rintro i7 l6 xr12 hinv10 hgo9 h
  show aG _ _ _ _ _ ⟨tab [(0, .d (eL none (eL none (D.int .i64)) a0)), (1, vi a1), (5, .loc 0 0 l6.length), (15, vi (l5.length : Int)), (16, vi i7)], ae [(0, .lst true none (List.map (D.int .i64) l6))], 1⟩
  have hc11 : decide (i7 < (l5.length : Int)) = true := decide_eq_true hgo9
  refine ak ⟨tab [(0, .d (eL none (eL none (D.int .i64)) a0)), (1, vi a1), (5, .loc 0 0 l6.length), (15, vi (l5.length : Int)), (16, vi i7), (17, vb (decide (i7 < (l5.length : Int))))], ae [(0, .lst true none (List.map (D.int .i64) l6))], 1⟩ ?_ ?_
  ·
   refine q1 _ ?_
   exact nR [0]
  refine cB 15 rfl fun hB8 => ?_
  refine aH ?_
  refine bb (t := decide (i7 < (l5.length : Int))) rfl hc11 ?_
  refine bf ?_
  refine aH ?_
  refine br ?_
  refine ak ⟨tab [(0, .d (eL none (eL none (D.int .i64)) a0)), (1, vi a1), (5, .loc 0 0 l6.length), (6, vi i7), (15, vi (l5.length : Int)), (16, vi i7)], ae [(0, .lst true none (List.map (D.int .i64) l6))], 1⟩ ?_ ?_
  ·
   iterate 2 refine q1 _ ?_
   exact nR [0]
  obtain ⟨x13, hx13, h⟩ := aB h
  obtain ⟨l14, hl14, h⟩ := aB h
  refine bO ⟨tab [(0, .d (eL none (eL none (D.int .i64)) a0)), (1, vi a1), (5, .loc 0 0 l14.length), (15, vi (l5.length : Int)), (16, vi i7)], ae [(0, .lst true none (List.map (D.int .i64) l14))], 1⟩ ?_ ?_
  ·
   iterate 2 refine q1 _ ?_
   refine step (v := .ptr 0 i7.toNat 0) (dN (xs := l6) (e := (D.int .i64)) hx13 rfl rfl rfl rfl) ?_
   refine step (v := V.undef) (σ' := (ah (ae [(0, .lst true none (List.map (D.int .i64) l6))]) 0 (some (.lst true none (List.map (D.int .i64) l14))))) (n' := 1) (gz (e := (D.int .i64)) (v' := (-1)) hl14 rfl rfl rfl rfl rfl) ?_
   exact aI.nil' (nm [0] ⟨.d _, .d _, .le (id := 0) (gy hl14).symm (show 0 < 1 by decide), .d _, .d _, trivial⟩ ⟨⟨show 0 < 1 by decide, _, rfl, .lst _ _ _⟩, trivial⟩)
  have hh := aC h
  subst hh
  refine bO ⟨tab [(0, .d (eL none (eL none (D.int .i64)) a0)), (1, vi a1), (5, .loc 0 0 l14.length), (15, vi (l5.length : Int)), (16, vi (i7 + 1))], ae [(0, .lst true none (List.map (D.int .i64) l14))], 1⟩ ?_ ?_
  ·
   refine step (v := vi (i7 + 1)) (cx (cz hinv10 hgo9 hB8) rfl rfl) ?_
   refine q1 _ ?_
   exact nR [0]
  exact And.intro rfl rfl
 ·
  rintro i7 l6 hinv10 hgo9
  show aG _ _ _ _ _ ⟨tab [(0, .d (eL none (eL none (D.int .i64)) a0)), (1, vi a1), (5, .loc 0 0 l6.length), (15, vi (l5.length : Int)), (16, vi i7)], ae [(0, .lst true none (List.map (D.int .i64) l6))], 1⟩
  have hc11 : ¬ (decide (i7 < (l5.length : Int)) = true) := fun hq => hgo9 (of_decide_eq_true hq)
  refine ak ⟨tab [(0, .d (eL none (eL none (D.int .i64)) a0)), (1, vi a1), (5, .loc 0 0 l6.length), (17, vb (decide (i7 < (l5.length : Int))))], ae [(0, .lst true none (List.map (D.int .i64) l6))], 1⟩ ?_ ?_
  ·
   refine q1 _ ?_
   exact nR [0]
  refine aH ?_
  refine bd (t := decide (i7 < (l5.length : Int))) rfl hc11 ?_
  refine bg (s0 := ⟨tab [(0, .d (eL none (eL none (D.int .i64)) a0)), (1, vi a1), (5, .loc 0 0 l6.length)], ae [(0, .lst true none (List.map (D.int .i64) l6))], 1⟩) (nr [0]) ?_
  refine ce ?_
  exact And.intro rfl rfl
 refine aH ?_
 obtain ⟨r2, hr2, h⟩ := aB h
 refine aH ?_
 refine bO ⟨tab [(0, .d (eL none (eL none (D.int .i64)) a0)), (1, vi a1), (5, .loc 0 0 z15.length), (26, vb (!r2))], ae [(0, .lst true none (List.map (D.int .i64) z15))], 1⟩ ?_ ?_
 ·
  iterate 2 refine q1 _ ?_
  refine bI (r := .bool r2) (aK (aK a8.nil')) (je hr2) ?_
  refine q1 _ ?_
  exact nR [0]
 by_cases hc : (!r2) = true
 ·
  replace h := bo hc h
  refine bb (t := !r2) rfl hc ?_
  refine ak ⟨tab [(4, .loc 0 0 z15.length)], ae [(0, .lst true none (List.map (D.int .i64) z15))], 1⟩ ?_ ?_
  ·
   iterate 2 refine q1 _ ?_
   exact nR [0]
  have hh := aC h
  subst hh
  refine bA ?_
  show FQ _ _ _ _
  exact bZ (.inr rfl) (bh (v := .loc 0 0 z15.length) rfl rfl) (RV.loc rfl (by simp) trivial)
 replace h := bp hc h
 refine bd (t := !r2) rfl hc ?_
 refine bf ?_
 obtain ⟨x16, hx16, h⟩ := aB h
 obtain ⟨l17, hl17, h⟩ := aB h
 refine ak ⟨tab [(0, .d (eL none (eL none (D.int .i64)) a0)), (1, vi a1), (5, .loc 0 0 l17.length)], ae [(0, .lst true none (List.map (D.int .i64) l17))], 1⟩ ?_ ?_
 ·
  iterate 2 refine q1 _ ?_
  refine step (v := .ptr 0 a1.toNat 0) (dN (xs := z15) (e := (D.int .i64)) hx16 rfl rfl rfl rfl) ?_
  refine step (v := V.undef) (σ' := (ah (ae [(0, .lst true none (List.map (D.int .i64) z15))]) 0 (some (.lst true none (List.map (D.int .i64) l17))))) (n' := 1) (gz (e := (D.int .i64)) (v' := 0) hl17 rfl rfl rfl rfl rfl) ?_
  exact aI.nil' (nm [0] ⟨.d _, .d _, .le (id := 0) (gy hl17).symm (show 0 < 1 by decide), trivial⟩ ⟨⟨show 0 < 1 by decide, _, rfl, .lst _ _ _⟩, trivial⟩)
 refine aH ?_
 refine ak ⟨tab [(0, .d (eL none (eL none (D.int .i64)) a0)), (5, .loc 0 0 l17.length), (7, .loc 1 0 1)], fS [] l17 [a1], 2⟩ ?_ ?_
 ·
  refine q1 _ ?_
  refine step (v := .loc 1 0 1) (σ' := (ah (ae [(0, .lst true none (List.map (D.int .i64) l17))]) 1 (some (.lst false none [.int .i64 a1])))) (n' := 2) rfl ?_
  refine q1 _ ?_
  exact nR [0, 1]
 obtain ⟨⟨z, zq⟩, hl2, h⟩ := aB h
 have hh := aC h
 subst hh
 refine br ?_
 refine sO (γ := List D) (fun (g : List D) (s : List Int × List Int) => ⟨tab [(0, .d (eL none (eL none (D.int .i64)) a0)), (5, .loc 0 0 s.1.length), (7, .loc 1 g.length s.2.length)], fS g s.1 s.2, 2⟩) 2 (fun (g : List D) (s : List Int × List Int) => ⟨tab [(5, .loc 0 0 s.1.length)], ae [(0, .lst true none (List.map (D.int .i64) s.1))], 1⟩) (g := []) hl2 ?_ ?_
 ·
  rintro g ⟨d, q⟩ x h
  show aG _ _ _ _ _ ⟨tab [(0, .d (eL none (eL none (D.int .i64)) a0)), (5, .loc 0 0 d.length), (7, .loc 1 g.length q.length)], fS g d q, 2⟩
  refine aH ?_
  refine aH ?_
  refine bO ⟨tab [(0, .d (eL none (eL none (D.int .i64)) a0)), (5, .loc 0 0 d.length), (7, .loc 1 g.length q.length), (35, vb (decide ((q.length : Int) > 0)))], fS g d q, 2⟩ ?_ ?_
  ·
   iterate 3 refine q1 _ ?_
   exact nR [0, 1]
  by_cases hc : decide ((q.length : Int) > 0) = true
  ·
   replace h := bo hc h
   refine bb rfl hc ?_
   refine bf ?_
   obtain ⟨xh, hxh, h⟩ := aB h
   obtain ⟨l, hll, h⟩ := aB h
   obtain ⟨⟨d2, q2⟩, hl3, h⟩ := aB h
   obtain ⟨q3, hq3, h⟩ := aB h
   have hh := aC h
   subst hh
   refine aH ?_
   refine br ?_
   refine ak ⟨tab [(0, .d (eL none (eL none (D.int .i64)) a0)), (5, .loc 0 0 d.length), (7, .loc 1 g.length q.length), (8, vi xh)], fS g d q, 2⟩ ?_ ?_
   ·
    refine q1 _ ?_
    refine step (v := .ptr 1 (g.length + (0 : Int).toNat) 0) (uE rfl rfl hxh) ?_
    refine step (v := vi xh) (uF rfl hxh) ?_
    refine q1 _ ?_
    exact nR [0, 1]
   refine ak ⟨tab [(0, .d (eL none (eL none (D.int .i64)) a0)), (5, .loc 0 0 d.length), (7, .loc 1 g.length q.length), (8, vi xh), (44, aS l), (45, vi (l.length : Int)), (46, vi 0)], fS g d q, 2⟩ ?_ ?_
   ·
    iterate 2 refine q1 _ ?_
    refine step (v := .d (.cptr none (eL none (D.int .i64) l) 0)) (bX (xs := a0) (e := (eL none (D.int .i64))) hll rfl rfl) ?_
    refine q1 _ ?_
    refine step (v := vi (l.length : Int)) (bR (xs := l) (e := (D.int .i64)) rfl) ?_
    refine q1 _ ?_
    exact nR [0, 1]
   refine br ?_
   refine sP (γ := List D) (cC (l.length : Int)) (fun (g : List D) (i : Int) (s : List Int × List Int) => ⟨tab [(0, .d (eL none (eL none (D.int .i64)) a0)), (5, .loc 0 0 s.1.length), (7, .loc 1 g.length s.2.length), (8, vi xh), (44, aS l), (45, vi (l.length : Int)), (46, vi i)], fS g s.1 s.2, 2⟩) 4 (fun (g : List D) (s : List Int × List Int) => ⟨tab [(0, .d (eL none (eL none (D.int .i64)) a0)), (5, .loc 0 0 s.1.length), (7, .loc 1 g.length s.2.length)], fS g s.1 s.2, 2⟩) bu cD (g := g) hl3 (by unfold bu; omega) ?_ ?_ ?_
   ·
    rintro g i ⟨d, q⟩ ⟨d9, q9⟩ hinv hgo h
    show aG _ _ _ _ _ ⟨tab [(0, .d (eL none (eL none (D.int .i64)) a0)), (5, .loc 0 0 d.length), (7, .loc 1 g.length q.length), (8, vi xh), (44, aS l), (45, vi (l.length : Int)), (46, vi i)], fS g d q, 2⟩
    have hci : decide (i < (l.length : Int)) = true := decide_eq_true hgo
    refine ak ⟨tab [(0, .d (eL none (eL none (D.int .i64)) a0)), (5, .loc 0 0 d.length), (7, .loc 1 g.length q.length), (8, vi xh), (44, aS l), (45, vi (l.length : Int)), (46, vi i), (47, vb (decide (i < (l.length : Int))))], fS g d q, 2⟩ ?_ ?_
    ·
     refine q1 _ ?_
     exact nR [0, 1]
    refine cB 45 rfl fun hB => ?_
    refine aH ?_
    refine bb rfl hci ?_
    refine bf ?_
    obtain ⟨k, hk, h⟩ := aB h
    obtain ⟨dk, hdk, h⟩ := aB h
    have tailR : ∀ (g2 : List D), aG Try.prog 69 0 (.ops false [oo 67 (.bin .add (.t 46) (ci 1)), oo 46 (.mov (.t 67))]) (fun e s' => e = .normal ∧ ∃ g3 : List D, s' = (⟨tab [(0, .d (eL none (eL none (D.int .i64)) a0)), (5, .loc 0 0 d9.length), (7, .loc 1 g3.length q9.length), (8, vi xh), (44, aS l), (45, vi (l.length : Int)), (46, vi (i + 1))], fS g3 d9 q9, 2⟩ : S)) ⟨tab [(0, .d (eL none (eL none (D.int .i64)) a0)), (5, .loc 0 0 d9.length), (7, .loc 1 g2.length q9.length), (8, vi xh), (44, aS l), (45, vi (l.length : Int)), (46, vi i)], fS g2 d9 q9, 2⟩ := by
     intro g2
     refine bO ⟨tab [(0, .d (eL none (eL none (D.int .i64)) a0)), (5, .loc 0 0 d9.length), (7, .loc 1 g2.length q9.length), (8, vi xh), (44, aS l), (45, vi (l.length : Int)), (46, vi (i + 1))], fS g2 d9 q9, 2⟩ ?_ ⟨rfl, g2, rfl⟩
     refine step (v := vi (i + 1)) (cx (cz hinv hgo hB) rfl rfl) ?_
     refine q1 _ ?_
     exact nR [0, 1]
    refine aH ?_
    refine br ?_
    refine ak ⟨tab [(0, .d (eL none (eL none (D.int .i64)) a0)), (5, .loc 0 0 d.length), (7, .loc 1 g.length q.length), (8, vi xh), (10, vi k), (44, aS l), (45, vi (l.length : Int)), (46, vi i)], fS g d q, 2⟩ ?_ ?_
    ·
     refine step (v := .d (.cptr none (.int .i64 k) 0)) (bX (xs := l) (e := (D.int .i64)) hk rfl rfl) ?_
     iterate 2 refine q1 _ ?_
     exact nR [0, 1]
    refine ak ⟨tab [(0, .d (eL none (eL none (D.int .i64)) a0)), (5, .loc 0 0 d.length), (7, .loc 1 g.length q.length), (8, vi xh), (10, vi k), (44, aS l), (45, vi (l.length : Int)), (46, vi i), (54, vb (decide (dk < 0)))], fS g d q, 2⟩ ?_ ?_
    ·
     iterate 2 refine q1 _ ?_
     refine step (v := .ptr 0 k.toNat 0) (dN (xs := d) (e := (D.int .i64)) hdk rfl rfl rfl rfl) ?_
     refine step (v := vi dk) (e8 (xs := d) (e := (D.int .i64)) hdk rfl rfl rfl) ?_
     refine q1 _ ?_
     exact nR [0, 1]
    by_cases hck : decide (dk < 0) = true
    ·
     replace h := bo hck h
     obtain ⟨dx, hdx, h⟩ := aB h
     obtain ⟨d3, hd3, h⟩ := aB h
     obtain ⟨q4, hq4, h⟩ := aB h
     obtain ⟨rfl, rfl⟩ := Prod.mk.inj (aC h)
     refine bb rfl hck ?_
     have hkd : aW d k = some dk := hdk
     refine ak ⟨tab [(0, .d (eL none (eL none (D.int .i64)) a0)), (5, .loc 0 0 d3.length), (7, .loc 1 g.length q.length), (8, vi xh), (10, vi k), (44, aS l), (45, vi (l.length : Int)), (46, vi i)], fS g d3 q, 2⟩ ?_ ?_
     ·
      iterate 4 refine q1 _ ?_
      refine step (v := .ptr 0 xh.toNat 0) (dN (xs := d) (e := (D.int .i64)) hdx rfl rfl rfl rfl) ?_
      refine step (v := vi dx) (e8 (xs := d) (e := (D.int .i64)) hdx rfl rfl rfl) ?_
      refine q1 _ ?_
      refine step (v := .ptr 0 k.toNat 0) (dN (xs := d) (e := (D.int .i64)) hdk rfl rfl rfl rfl) ?_
      refine step (v := V.undef) (σ' := (ah (fS g d q) 0 (some (.lst true none (List.map (D.int .i64) d3))))) (n' := 2) (gz (e := (D.int .i64)) (v' := (IntKind.i64.wrap (dx + 1))) hd3 rfl rfl rfl rfl rfl) ?_
      exact aI.nil' (nm [0, 1] ⟨.d _, .le (id := 0) (gy hd3).symm (show 0 < 2 by decide), .lc 1, .d _, .d _, .d _, .d _, .d _, trivial⟩ ⟨⟨show 0 < 2 by decide, _, rfl, .lst _ _ _⟩, ⟨show 1 < 2 by decide, _, rfl, .lst _ _ _⟩, trivial⟩)
     have hq5 : q4 = q ++ [k] ∧ q.length + 1 ≤ 4294967296 := by
      unfold c8 at hq4
      split at hq4
      ·
       rename_i hle; cases hq4; exact ⟨rfl, hle⟩
      ·
       cases hq4
     obtain ⟨rfl, hle⟩ := hq5
     refine sN ?_
     refine .inl (q1 _ (aI.nil' ?_))
     refine .inl (q1 _ (aI.nil' ?_))
     refine .inl (q1 (.d (.vec none [.int .i64 k])) (aI.nil' ?_))
     refine .inr ⟨rfl, none, .t 63, .t 65, false, 1, g.length, q.length, false, g ++ List.map (D.int .i64) q, [.int .i64 k], rfl, rfl, rfl, by simp, by simp [dA, dz, bK, cQ, aA, aM, ah], by simpa [dy] using hle, fun g2 => ?_⟩
     refine .inl (q1 (.loc 2 g2.length (q.length + 1)) (aI.nil' ?_))
     refine ⟨⟨tab [(0, .d (eL none (eL none (D.int .i64)) a0)), (5, .loc 0 0 d3.length), (7, .loc 1 g2.length (q ++ [k]).length), (8, vi xh), (44, aS l), (45, vi (l.length : Int)), (46, vi i)], fS g2 d3 (q ++ [k]), 2⟩, ?_, tailR g2⟩
     have e1 : List.drop g.length (g ++ List.map (D.int .i64) q) ++ [D.int .i64 k] = List.map (D.int .i64) (q ++ [k]) := by simp
     rw [e1]
     have e2 : (q ++ [k]).length = q.length + 1 := by simp
     rw [e2]
     exact nr [0, 2]
    ·
     replace h := bp hck h
     obtain ⟨rfl, rfl⟩ := Prod.mk.inj (aC h)
     refine bd rfl hck ?_
     refine bg (s0 := ⟨tab [(0, .d (eL none (eL none (D.int .i64)) a0)), (5, .loc 0 0 d.length), (7, .loc 1 g.length q.length), (8, vi xh), (44, aS l), (45, vi (l.length : Int)), (46, vi i)], fS g d q, 2⟩) (nr [0, 1]) ?_
     refine bf ?_
     exact tailR g
   ·
    rintro g i ⟨d, q⟩ hinv hgo
    show aG _ _ _ _ _ ⟨tab [(0, .d (eL none (eL none (D.int .i64)) a0)), (5, .loc 0 0 d.length), (7, .loc 1 g.length q.length), (8, vi xh), (44, aS l), (45, vi (l.length : Int)), (46, vi i)], fS g d q, 2⟩
    have hci : ¬ (decide (i < (l.length : Int)) = true) := fun hq => hgo (of_decide_eq_true hq)
    refine ak ⟨tab [(0, .d (eL none (eL none (D.int .i64)) a0)), (5, .loc 0 0 d.length), (7, .loc 1 g.length q.length), (47, vb (decide (i < (l.length : Int))))], fS g d q, 2⟩ ?_ ?_
    ·
     refine q1 _ ?_
     exact nR [0, 1]
    refine aH ?_
    refine bd rfl hci ?_
    refine bg (s0 := ⟨tab [(0, .d (eL none (eL none (D.int .i64)) a0)), (5, .loc 0 0 d.length), (7, .loc 1 g.length q.length)], fS g d q, 2⟩) (nr [0, 1]) ?_
    refine ce ?_
    exact And.intro rfl rfl
   intro g2
   obtain ⟨xq, hxq⟩ := uH hq3
   refine bO ⟨tab [(0, .d (eL none (eL none (D.int .i64)) a0)), (5, .loc 0 0 d2.length), (7, .loc 1 (g2 ++ [D.int .i64 xq]).length q3.length)], fS (g2 ++ [D.int .i64 xq]) d2 q3, 2⟩ ?_ ⟨rfl, _, rfl⟩
   refine q1 _ ?_
   refine step (v := .loc 1 (g2.length + 1) q3.length) (uG rfl hq3) ?_
   refine q1 _ ?_
   have e1 : g2 ++ List.map (D.int .i64) q2 = (g2 ++ [D.int .i64 xq]) ++ List.map (D.int .i64) q3 := by rw [hxq]; simp
   have e2 : (g2 ++ [D.int .i64 xq]).length = g2.length + 1 := by simp
   rw [e2]
   refine aI.nil' (nm [0, 1] ⟨.d _, .lc 0, .lc 1, trivial⟩ ⟨⟨show 0 < 2 by decide, _, rfl, .lst _ _ _⟩, ⟨show 1 < 2 by decide, _, rfl, ?_⟩, trivial⟩)
   rw [e1]; exact .lst _ _ _
  ·
   replace h := bp hc h
   have hh := aC h
   subst hh
   refine bd rfl hc ?_
   refine bg (s0 := ⟨tab [(5, .loc 0 0 d.length)], ae [(0, .lst true none (List.map (D.int .i64) d))], 1⟩) (nr [0]) ?_
   refine ce ?_
   exact ⟨rfl, g, rfl⟩
 intro g2
 show aG _ _ _ _ _ ⟨tab [(5, .loc 0 0 z.length)], ae [(0, .lst true none (List.map (D.int .i64) z))], 1⟩
 refine ak ⟨tab [(4, .loc 0 0 z.length)], ae [(0, .lst true none (List.map (D.int .i64) z))], 1⟩ ?_ ?_
 ·
  iterate 2 refine q1 _ ?_
  exact nR [0]
 refine bA ?_
 show FQ _ _ _ _
 exact bZ (.inr rfl) (bh (v := .loc 0 0 z.length) rfl rfl) (RV.loc rfl (by simp) trivial)
theorem uN {a0 : Int} {a1 : (List Int)} {a2 : Int} {r : Bool} (h : jk a0 a1 a2 = some r) : PCall Try.prog 60 [.int .i64 a0, .cptr none (eL none (D.int .i64) a1) 0, .cptr none (.int .i64 a2) 0] (.bool r) := by
 refine PCall.introN tk (show 3 ≤ 15 by decide) ?_
 refine bg (s0 := ⟨tab [(0, vi a0), (1, .d (.cptr none (eL none (D.int .i64) a1) 0)), (2, .d (.cptr none (.int .i64 a2) 0))], ae [], 0⟩) (nr []) ?_
 refine ak ⟨tab [(0, vi a0), (1, .d (.cptr none (eL none (D.int .i64) a1) 0)), (2, .d (.cptr none (.int .i64 a2) 0))], ae [], 0⟩ ?_ ?_
 ·
  refine q1 _ ?_
  exact nR []
 obtain ⟨x1, hx1, h⟩ := aB h
 obtain ⟨x2, hx2, h⟩ := aB h
 refine ak ⟨tab [(4, vb (x1 == (IntKind.i64.wrap (x2 - 1))))], ae [], 0⟩ ?_ ?_
 ·
  iterate 2 refine q1 _ ?_
  refine step (v := .d (.cptr none (.int .i64 x1) 0)) (bX (xs := a1) (e := (D.int .i64)) hx1 rfl rfl) ?_
  iterate 3 refine q1 _ ?_
  refine step (v := .d (.cptr none (.int .i64 x2) 0)) (bX (xs := a1) (e := (D.int .i64)) hx2 rfl rfl) ?_
  iterate 4 refine q1 _ ?_
  exact nR []
 have hh := aC h
 subst hh
 refine bA ?_
 show FQ _ _ _ _
 exact bZ (.inr rfl) (bh (v := vb (x1 == (IntKind.i64.wrap (x2 - 1)))) rfl rfl) (RV.d trivial)
theorem uO {a0 : (List Int)} {a1 : Int → Option Bool} {g_a1 : D} (hf_a1 : rt Try.prog g_a1 (D.int .i64) D.bool a1) {r : Int} (h : jl a0 a1 = some r) : PCall Try.prog 59 [eL none (D.int .i64) a0, g_a1] (.int .i64 r) := by
 obtain ⟨fn_a1, cap_a1, rfl, hc_a1⟩ := hf_a1
 refine PCall.introN tp (show 2 ≤ 19 by decide) ?_
 refine bg (s0 := ⟨tab [(0, aS a0), (1, .d (.func fn_a1 cap_a1))], ae [], 0⟩) (nr []) ?_
 refine ak ⟨tab [(0, aS a0), (1, .d (.func fn_a1 cap_a1))], ae [], 0⟩ ?_ ?_
 ·
  refine q1 _ ?_
  exact nR []
 refine aH ?_
 refine ak ⟨tab [(0, aS a0), (1, .d (.func fn_a1 cap_a1)), (7, vi (a0.length : Int)), (8, vi 0)], ae [], 0⟩ ?_ ?_
 ·
  refine q1 _ ?_
  refine step (v := vi (a0.length : Int)) (bR (xs := a0) (e := (D.int .i64)) rfl) ?_
  refine q1 _ ?_
  exact nR []
 obtain ⟨q10, hl, h⟩ := aB h
 refine br ?_
 refine eC (cC (a0.length : Int)) (fun (i1 : Int) (qq : Unit) => ⟨tab [(0, aS a0), (1, .d (.func fn_a1 cap_a1)), (7, vi (a0.length : Int)), (8, vi i1)], ae [], 0⟩) 0 (fun (qq : Unit) => ⟨tab [], ae [], 0⟩) bu cD (r := r) hl (by unfold bu; omega) ?_ ?_ ?_ ?_
 ·
  rintro i1 ⟨⟩ xr6 hinv4 hgo3 h
  show aG _ _ _ _ _ ⟨tab [(0, aS a0), (1, .d (.func fn_a1 cap_a1)), (7, vi (a0.length : Int)), (8, vi i1)], ae [], 0⟩
  have hc5 : decide (i1 < (a0.length : Int)) = true := decide_eq_true hgo3
  refine ak ⟨tab [(0, aS a0), (1, .d (.func fn_a1 cap_a1)), (7, vi (a0.length : Int)), (8, vi i1), (9, vb (decide (i1 < (a0.length : Int))))], ae [], 0⟩ ?_ ?_
  ·
   refine q1 _ ?_
   exact nR []
  refine cB 7 rfl fun hB2 => ?_
  refine aH ?_
  refine bb (t := decide (i1 < (a0.length : Int))) rfl hc5 ?_
  refine bf ?_
  refine aH ?_
  refine br ?_
  refine ak ⟨tab [(0, aS a0), (1, .d (.func fn_a1 cap_a1)), (5, vi i1), (7, vi (a0.length : Int)), (8, vi i1)], ae [], 0⟩ ?_ ?_
  ·
   iterate 2 refine q1 _ ?_
   exact nR []
  obtain ⟨x7, hx7, h⟩ := aB h
  obtain ⟨x8, hx8, h⟩ := aB h
  refine ak ⟨tab [(0, aS a0), (1, .d (.func fn_a1 cap_a1)), (5, vi i1), (7, vi (a0.length : Int)), (8, vi i1), (16, vb x8)], ae [], 0⟩ ?_ ?_
  ·
   iterate 3 refine q1 _ ?_
   refine step (v := .d (.cptr none (.int .i64 x7) 0)) (bX (xs := a0) (e := (D.int .i64)) hx7 rfl rfl) ?_
   refine q1 _ ?_
   refine rf (r := .bool x8) rfl (aK a8.nil') (hc_a1 _ _ hx8) ?_
   exact nR []
  by_cases hc9 : x8 = true
  ·
   replace h := bo hc9 h
   refine bb (t := x8) rfl hc9 ?_
   refine ak ⟨tab [(4, vi i1)], ae [], 0⟩ ?_ ?_
   ·
    iterate 2 refine q1 _ ?_
    exact nR []
   obtain ⟨r10, kr10, hr⟩ := dO (o := some i1) (g := Br.ret) h
   subst hr
   have h := kr10
   have hh := aC h
   subst hh
   refine bA ?_
   refine And.intro (fun hn => nomatch hn) ?_
   intro hq
   have hq := hq.symm
   subst hq
   show FQ _ _ _ _
   exact bZ (.inr rfl) (bh (v := vi i1) rfl rfl) (RV.d trivial)
  ·
   replace h := bp hc9 h
   refine bd (t := x8) rfl hc9 ?_
   refine bf ?_
   have hh := aC h
   subst hh
   refine bO ⟨tab [(0, aS a0), (1, .d (.func fn_a1 cap_a1)), (7, vi (a0.length : Int)), (8, vi (i1 + 1))], ae [], 0⟩ ?_ ?_
   ·
    refine step (v := vi (i1 + 1)) (cx (cz hinv4 hgo3 hB2) rfl rfl) ?_
    refine q1 _ ?_
    exact nR []
   exact And.intro rfl rfl
 ·
  rintro i1 ⟨⟩ hinv4 hgo3
  show aG _ _ _ _ _ ⟨tab [(0, aS a0), (1, .d (.func fn_a1 cap_a1)), (7, vi (a0.length : Int)), (8, vi i1)], ae [], 0⟩
  have hc5 : ¬ (decide (i1 < (a0.length : Int)) = true) := fun hq => hgo3 (of_decide_eq_true hq)
  refine ak ⟨tab [(0, aS a0), (1, .d (.func fn_a1 cap_a1)), (7, vi (a0.length : Int)), (8, vi i1), (9, vb (decide (i1 < (a0.length : Int))))], ae [], 0⟩ ?_ ?_
  ·
   refine q1 _ ?_
   exact nR []
  refine aH ?_
  refine bd (t := decide (i1 < (a0.length : Int))) rfl hc5 ?_
  refine bg (s0 := ⟨tab [], ae [], 0⟩) (nr []) ?_
  refine ce ?_
  exact And.intro rfl rfl
 ·
  intro r' hq
  subst hq
  exact aC h
 rintro ⟨⟩ rfl
 refine ak ⟨tab [(4, vi (-1))], ae [], 0⟩ ?_ ?_
 ·
  refine q1 _ ?_
  exact nR []
 have hh := aC h
 subst hh
 refine bA ?_
 show FQ _ _ _ _
 exact bZ (.inr rfl) (bh (v := vi (-1)) rfl rfl) (RV.d trivial)
theorem pd {a0 : api_Topo} {a1 : Int} {a2 : Int} {r : ((List Int) × Bool)} (h : ff a0 a1 a2 = some r) : PCall Try.prog 23 [eapi_Topo a0, .int .i64 a1, .int .i64 a2] (.tup [eL none (D.int .i64) r.1, .bool r.2]) := by
 refine PCall.introN tu (show 3 ≤ 58 by decide) ?_
 refine bg (s0 := ⟨tab [(0, vs1 a0), (1, vi a1), (2, vi a2)], ae [], 0⟩) (nr []) ?_
 refine ak ⟨tab [(1, vi a1), (2, vi a2), (3, ap a0)], ae [], 0⟩ ?_ ?_
 ·
  iterate 3 refine q1 _ ?_
  exact nR []
 obtain ⟨r1, hr1, h⟩ := aB h
 refine ak ⟨tab [(1, vi a1), (2, vi a2), (8, .d (eL none (eL none (D.int .i64)) r1))], ae [], 0⟩ ?_ ?_
 ·
  refine q1 _ ?_
  refine bI (r := eL none (eL none (D.int .i64)) r1) (aK (aK a8.nil')) (ma hr1) ?_
  refine q1 _ ?_
  exact nR []
 refine aH ?_
 obtain ⟨r2, hr2, h⟩ := aB h
 obtain ⟨y5, hv, h⟩ := aB h
 refine ak ⟨tab [(1, vi a1), (2, vi a2), (8, .d (eL none (eL none (D.int .i64)) r1)), (24, vb y5)], ae [], 0⟩ ?_ ?_
 ·
  iterate 2 refine q1 _ ?_
  refine bI (r := .bool r2) (aK (aK a8.nil')) (je hr2) ?_
  iterate 2 refine q1 _ ?_
  by_cases hg3 : (!r2) = true
  ·
   replace hv := bo hg3 hv
   iterate 4 refine qX (!r2) (by rw [hg3]; decide) ?_
   refine step (v := vb true) (ba (b := (!r2)) rfl hg3 rfl) ?_
   have hh := aC hv
   subst hh
   exact nR []
  ·
   replace hv := bp hg3 hv
   obtain ⟨r4, hr4, hv⟩ := aB hv
   refine qG (!r2) (Bool.eq_false_iff.2 hg3) ?_
   refine q1 _ ?_
   refine qG (!r2) (Bool.eq_false_iff.2 hg3) ?_
   refine q1 _ ?_
   refine qG (!r2) (Bool.eq_false_iff.2 hg3) ?_
   refine bI (r := .bool r4) (aK (aK a8.nil')) (je hr4) ?_
   refine qG (!r2) (Bool.eq_false_iff.2 hg3) ?_
   refine q1 _ ?_
   refine step (v := vb (!r4)) (bk (b := (!r2)) rfl hg3 rfl) ?_
   have hh := aC hv
   subst hh
   exact nR []
 by_cases hc7 : y5 = true
 ·
  replace h := bo hc7 h
  refine bb (t := y5) rfl hc7 ?_
  refine ak ⟨tab [(6, aS ([] : List Int)), (7, vb false)], ae [], 0⟩ ?_ ?_
  ·
   iterate 2 refine q1 _ ?_
   exact nR []
  have hh := aC h
  subst hh
  refine bA ?_
  show FQ _ _ _ _
  exact dQ (.inr rfl) (bh (v := aS ([] : List Int)) rfl (bh (v := vb false) rfl rfl)) (RV.d (RV.d trivial))
 ·
  replace h := bp hc7 h
  refine bd (t := y5) rfl hc7 ?_
  refine bf ?_
  obtain ⟨r8, hr8, h⟩ := aB h
  refine ak ⟨tab [(1, vi a1), (2, vi a2), (8, .d (eL none (eL none (D.int .i64)) r1)), (9, .ptr 0 0 0)], ae [(0, .var [aS r8])], 1⟩ ?_ ?_
  ·
   iterate 2 refine q1 _ ?_
   refine bI (r := eL none (D.int .i64) r8) (aK (aK a8.nil')) (mb hr8) ?_
   refine step (v := .ptr 0 0 0) (σ' := (ah (ae []) 0 (some (.var [aS []])))) (n' := 1) rfl ?_
   refine step (v := V.undef) (σ' := (ah (ah (ae []) 0 (some (.var [aS []]))) 0 (some (.var [aS r8])))) (n' := 1) rfl ?_
   exact nR [0]
  refine aH ?_
  obtain ⟨x9, hx9, h⟩ := aB h
  refine ak ⟨tab [(1, vi a1), (2, vi a2), (8, .d (eL none (eL none (D.int .i64)) r1)), (9, .ptr 0 0 0), (32, vb (decide (x9 < 0)))], ae [(0, .var [aS r8])], 1⟩ ?_ ?_
  ·
   iterate 2 refine q1 _ ?_
   refine step (v := .d (.cptr none (.int .i64 x9) 0)) (bX (xs := r8) (e := (D.int .i64)) hx9 rfl rfl) ?_
   iterate 2 refine q1 _ ?_
   exact nR [0]
  by_cases hc10 : decide (x9 < 0) = true
  ·
   replace h := bo hc10 h
   refine bb (t := decide (x9 < 0)) rfl hc10 ?_
   refine ak ⟨tab [(6, aS ([] : List Int)), (7, vb false)], ae [], 0⟩ ?_ ?_
   ·
    iterate 2 refine q1 _ ?_
    exact nR []
   have hh := aC h
   subst hh
   refine bA ?_
   show FQ _ _ _ _
   exact dQ (.inr rfl) (bh (v := aS ([] : List Int)) rfl (bh (v := vb false) rfl rfl)) (RV.d (RV.d trivial))
  ·
   replace h := bp hc10 h
   refine bd (t := decide (x9 < 0)) rfl hc10 ?_
   refine bf ?_
   refine ak ⟨tab [(1, vi a1), (2, vi a2), (8, .d (eL none (eL none (D.int .i64)) r1)), (9, .ptr 0 0 0), (10, .loc 1 0 (([a1] : List Int).length))], ae [(0, .var [aS r8]), (1, .lst false none (List.map (D.int .i64) ([a1] : List Int)))], 2⟩ ?_ ?_
   ·
    refine q1 _ ?_
    refine step (v := .loc 1 0 (([a1] : List Int).length)) (σ' := (ah (ae [(0, .var [aS r8])]) 1 (some (.lst false none (List.map (D.int .i64) ([a1] : List Int)))))) (n' := 2) rfl ?_
    refine q1 _ ?_
    exact nR [0, 1]
   refine aH ?_
   refine ak ⟨tab [(2, vi a2), (8, .d (eL none (eL none (D.int .i64)) r1)), (9, .ptr 0 0 0), (10, .loc 1 0 (([a1] : List Int).length)), (11, .ptr 2 0 0)], ae [(0, .var [aS r8]), (1, .lst false none (List.map (D.int .i64) ([a1] : List Int))), (2, .var [vi a1])], 3⟩ ?_ ?_
   ·
    refine q1 _ ?_
    refine step (v := .ptr 2 0 0) (σ' := (ah (ae [(0, .var [aS r8]), (1, .lst false none (List.map (D.int .i64) ([a1] : List Int)))]) 2 (some (.var [vi 0])))) (n' := 3) rfl ?_
    refine step (v := V.undef) (σ' := (ah (ah (ae [(0, .var [aS r8]), (1, .lst false none (List.map (D.int .i64) ([a1] : List Int)))]) 2 (some (.var [vi 0]))) 2 (some (.var [vi a1])))) (n' := 3) rfl ?_
    exact nR [0, 1, 2]
   obtain ⟨q21, hl, h⟩ := aB h
   obtain ⟨z19, z20⟩ := q21
   refine br ?_
   refine oh (fun (qq : ((List Int) × Int)) => ⟨tab [(2, vi a2), (8, .d (eL none (eL none (D.int .i64)) r1)), (9, .ptr 0 0 0), (10, .loc 1 0 qq.1.length), (11, .ptr 2 0 0)], ae [(0, .var [aS r8]), (1, .lst false none (List.map (D.int .i64) qq.1)), (2, .var [vi qq.2])], 3⟩) 0 (fun (qq : ((List Int) × Int)) => ⟨tab [(10, .loc 0 0 qq.1.length)], ae [(0, .lst false none (List.map (D.int .i64) qq.1))], 1⟩) hl ?_ ?_
   ·
    rintro ⟨l11, i12⟩ xr13 h
    show aG _ _ _ _ _ ⟨tab [(2, vi a2), (8, .d (eL none (eL none (D.int .i64)) r1)), (9, .ptr 0 0 0), (10, .loc 1 0 l11.length), (11, .ptr 2 0 0)], ae [(0, .var [aS r8]), (1, .lst false none (List.map (D.int .i64) l11)), (2, .var [vi i12])], 3⟩
    refine aH ?_
    refine ak ⟨tab [(2, vi a2), (8, .d (eL none (eL none (D.int .i64)) r1)), (9, .ptr 0 0 0), (10, .loc 1 0 l11.length), (11, .ptr 2 0 0), (38, vb (i12 != a2))], ae [(0, .var [aS r8]), (1, .lst false none (List.map (D.int .i64) l11)), (2, .var [vi i12])], 3⟩ ?_ ?_
    ·
     iterate 3 refine q1 _ ?_
     exact nR [0, 1, 2]
    by_cases hc14 : (i12 != a2) = true
    ·
     replace h := bo hc14 h
     refine bb (t := (i12 != a2)) rfl hc14 ?_
     refine bf ?_
     refine aH ?_
     refine br ?_
     obtain ⟨x15, hx15, h⟩ := aB h
     obtain ⟨r16, hr16, h⟩ := aB h
     refine ak ⟨tab [(2, vi a2), (8, .d (eL none (eL none (D.int .i64)) r1)), (9, .ptr 0 0 0), (10, .loc 1 0 l11.length), (11, .ptr 2 0 0), (12, vi r16)], ae [(0, .var [aS r8]), (1, .lst false none (List.map (D.int .i64) l11)), (2, .var [vi i12])], 3⟩ ?_ ?_
     ·
      iterate 2 refine q1 _ ?_
      refine step (v := .d (.cptr none (eL none (D.int .i64) x15) 0)) (bX (xs := r1) (e := (eL none (D.int .i64))) hx15 rfl rfl) ?_
      iterate 2 refine q1 _ ?_
      refine lj (v := vi r16) (σ' := _) (n' := _) (rA (uO ⟨60, [.cptr none (eL none (D.int .i64) r8) 0, .cptr none (.int .i64 i12) 0], rfl, fun _ _ h => uN h⟩ hr16) rfl (cM.c (.d _) (cM.c (rF (cM.c (.var1 rfl (.d _) rfl) (cM.c (.var1 rfl (.d _) rfl) cM.nil0))) cM.nil0))) (Nat.le_refl _) ?_
      refine q1 _ ?_
      exact nR [0, 1, 2]
     obtain ⟨x17, hx17, h⟩ := aB h
     refine ak ⟨tab [(2, vi a2), (8, .d (eL none (eL none (D.int .i64)) r1)), (9, .ptr 0 0 0), (10, .loc 1 0 l11.length), (11, .ptr 2 0 0)], ae [(0, .var [aS r8]), (1, .lst false none (List.map (D.int .i64) l11)), (2, .var [vi x17])], 3⟩ ?_ ?_
     ·
      iterate 2 refine q1 _ ?_
      refine step (v := .d (.cptr none (eL none (D.int .i64) x15) 0)) (bX (xs := r1) (e := (eL none (D.int .i64))) hx15 rfl rfl) ?_
      iterate 2 refine q1 _ ?_
      refine step (v := .d (.cptr none (.int .i64 x17) 0)) (bX (xs := x15) (e := (D.int .i64)) hx17 rfl rfl) ?_
      refine q1 _ ?_
      refine step (v := V.undef) (σ' := (ah (ae [(0, .var [aS r8]), (1, .lst false none (List.map (D.int .i64) l11)), (2, .var [vi i12])]) 2 (some (.var [vi x17])))) (n' := 3) rfl ?_
      exact nR [0, 1, 2]
     obtain ⟨l18, hl18, h⟩ := aB h
     refine bO ⟨tab [(2, vi a2), (8, .d (eL none (eL none (D.int .i64)) r1)), (9, .ptr 0 0 0), (10, .loc 1 0 l18.length), (11, .ptr 2 0 0)], ae [(0, .var [aS r8]), (1, .lst false none (List.map (D.int .i64) l18)), (2, .var [vi x17])], 3⟩ ?_ ?_
     ·
      iterate 3 refine q1 _ ?_
      refine step (v := .loc 3 0 l18.length) (σ' := (ah (ah (ae [(0, .var [aS r8]), (1, .lst false none (List.map (D.int .i64) l11)), (2, .var [vi x17])]) 1 none) 3 (some (.lst false none (List.map (D.int .i64) l18))))) (n' := 4) (iS (xs := l11) (ys := ([x17] : List Int)) (e := (D.int .i64)) hl18 rfl rfl rfl (iR (xs := ([x17] : List Int)) (e := (D.int .i64)) rfl)) ?_
      refine q1 _ ?_
      exact nR [0, 3, 2]
     refine ak ⟨tab [(2, vi a2), (8, .d (eL none (eL none (D.int .i64)) r1)), (9, .ptr 0 0 0), (10, .loc 1 0 l18.length), (56, vi x17)], ae [(0, .var [aS r8]), (1, .lst false none (List.map (D.int .i64) l18))], 2⟩ ?_ ?_
     ·
      refine q1 _ ?_
      exact nR [0, 1]
     have hh := aC h
     subst hh
     refine bO ⟨tab [(2, vi a2), (8, .d (eL none (eL none (D.int .i64)) r1)), (9, .ptr 0 0 0), (10, .loc 1 0 l18.length), (11, .ptr 2 0 0)], ae [(0, .var [aS r8]), (1, .lst false none (List.map (D.int .i64) l18)), (2, .var [vi x17])], 3⟩ ?_ ?_
     ·
      refine step (v := .ptr 2 0 0) (σ' := (ah (ae [(0, .var [aS r8]), (1, .lst false none (List.map (D.int .i64) l18))]) 2 (some (.var [vi 0])))) (n' := 3) rfl ?_
      refine step (v := V.undef) (σ' := (ah (ah (ae [(0, .var [aS r8]), (1, .lst false none (List.map (D.int .i64) l18))]) 2 (some (.var [vi 0]))) 2 (some (.var [vi x17])))) (n' := 3) rfl ?_
      exact nR [0, 1, 2]
     exact And.intro rfl rfl
    ·
     replace h := bp hc14 h
     refine bd (t := (i12 != a2)) rfl hc14 ?_
     have hh := aC h
     subst hh
     refine bg (s0 := ⟨tab [(10, .loc 0 0 l11.length)], ae [(0, .lst false none (List.map (D.int .i64) l11))], 1⟩) (nr [1]) ?_
     refine ce ?_
     exact And.intro rfl rfl
   refine ak ⟨tab [(6, .loc 0 0 z19.length), (7, vb true)], ae [(0, .lst false none (List.map (D.int .i64) z19))], 1⟩ ?_ ?_
   ·
    iterate 3 refine q1 _ ?_
    exact nR [0]
   have hh := aC h
   subst hh
   refine bA ?_
   show FQ _ _ _ _
   exact dQ (.inr rfl) (bh (v := .loc 0 0 z19.length) rfl (bh (v := vb true) rfl rfl)) (RV.loc (xs := z19) (e := (D.int .i64)) rfl rfl (RV.d trivial))
theorem pe {a0 : api_Topo} {a1 : Int} {a2 : Int} {r : (Int × Bool)} (h : fU a0 a1 a2 = some r) : PCall Try.prog 28 [eapi_Topo a0, .int .i64 a1, .int .i64 a2] (.tup [.int .u16 r.1, .bool r.2]) := by
 refine PCall.introN tw (show 3 ≤ 87 by decide) ?_
 refine bg (s0 := ⟨tab [(0, vs1 a0), (1, vi a1), (2, vi a2)], ae [], 0⟩) (nr []) ?_
 refine ak ⟨tab [(1, vi a1), (2, vi a2), (3, ap a0)], ae [], 0⟩ ?_ ?_
 ·
  iterate 3 refine q1 _ ?_
  exact nR []
 refine aH ?_
 refine ak ⟨tab [(1, vi a1), (2, vi a2), (3, ap a0), (36, vb ((decide (a1 < 0)) || ((decide (a1 ≥ (a0.Switches.length : Int))) || ((decide (a2 < 0)) || ((decide (a2 ≥ (a0.Switches.length : Int))) || (a1 == a2))))))], ae [], 0⟩ ?_ ?_
 ·
  iterate 3 refine q1 _ ?_
  by_cases hg1 : decide (a1 < 0) = true
  ·
   iterate 5 refine qX (decide (a1 < 0)) (by rw [hg1]; decide) ?_
   refine step (v := vb true) (ba (b := decide (a1 < 0)) rfl hg1 rfl) ?_
   refine q1 _ ?_
   iterate 2 refine qX true (by decide) ?_
   refine step (v := vb true) (ba (b := true) rfl rfl rfl) ?_
   refine q1 _ ?_
   iterate 5 refine qX true (by decide) ?_
   refine step (v := vb true) (ba (b := true) rfl rfl rfl) ?_
   refine q1 _ ?_
   iterate 3 refine qX true (by decide) ?_
   refine step (v := vb true) (ba (b := true) rfl rfl rfl) ?_
   exact aI.nil' (nm [] ⟨.d _, .d _, .d _, .eq (by first | (simp [hg1]; done) | (simp_all; done) | grind), trivial⟩ trivial)
  ·
   refine qG (decide (a1 < 0)) (Bool.eq_false_iff.2 hg1) ?_
   refine q1 _ ?_
   refine qG (decide (a1 < 0)) (Bool.eq_false_iff.2 hg1) ?_
   refine q1 _ ?_
   refine qG (decide (a1 < 0)) (Bool.eq_false_iff.2 hg1) ?_
   refine q1 _ ?_
   refine qG (decide (a1 < 0)) (Bool.eq_false_iff.2 hg1) ?_
   refine step (v := vi (a0.Switches.length : Int)) (bR (xs := a0.Switches) (e := (D.int .u16)) rfl) ?_
   refine qG (decide (a1 < 0)) (Bool.eq_false_iff.2 hg1) ?_
   refine q1 _ ?_
   refine step (v := vb (decide (a1 ≥ (a0.Switches.length : Int)))) (bk (b := decide (a1 < 0)) rfl hg1 rfl) ?_
   refine q1 _ ?_
   by_cases hg2 : decide (a1 ≥ (a0.Switches.length : Int)) = true
   ·
    iterate 2 refine qX (decide (a1 ≥ (a0.Switches.length : Int))) (by rw [hg2]; decide) ?_
    refine step (v := vb true) (ba (b := decide (a1 ≥ (a0.Switches.length : Int))) rfl hg2 rfl) ?_
    refine q1 _ ?_
    iterate 5 refine qX true (by decide) ?_
    refine step (v := vb true) (ba (b := true) rfl rfl rfl) ?_
    refine q1 _ ?_
    iterate 3 refine qX true (by decide) ?_
    refine step (v := vb true) (ba (b := true) rfl rfl rfl) ?_
    exact aI.nil' (nm [] ⟨.d _, .d _, .d _, .eq (by first | (simp [hg1, hg2]; done) | (simp_all; done) | grind), trivial⟩ trivial)
   ·
    refine qG (decide (a1 ≥ (a0.Switches.length : Int))) (Bool.eq_false_iff.2 hg2) ?_
    refine q1 _ ?_
    refine qG (decide (a1 ≥ (a0.Switches.length : Int))) (Bool.eq_false_iff.2 hg2) ?_
    refine q1 _ ?_
    refine step (v := vb (decide (a2 < 0))) (bk (b := decide (a1 ≥ (a0.Switches.length : Int))) rfl hg2 rfl) ?_
    refine q1 _ ?_
    by_cases hg3 : decide (a2 < 0) = true
    ·
     iterate 5 refine qX (decide (a2 < 0)) (by rw [hg3]; decide) ?_
     refine step (v := vb true) (ba (b := decide (a2 < 0)) rfl hg3 rfl) ?_
     refine q1 _ ?_
     iterate 3 refine qX true (by decide) ?_
     refine step (v := vb true) (ba (b := true) rfl rfl rfl) ?_
     exact aI.nil' (nm [] ⟨.d _, .d _, .d _, .eq (by first | (simp [hg1, hg2, hg3]; done) | (simp_all; done) | grind), trivial⟩ trivial)
    ·
     refine qG (decide (a2 < 0)) (Bool.eq_false_iff.2 hg3) ?_
     refine q1 _ ?_
     refine qG (decide (a2 < 0)) (Bool.eq_false_iff.2 hg3) ?_
     refine q1 _ ?_
     refine qG (decide (a2 < 0)) (Bool.eq_false_iff.2 hg3) ?_
     refine q1 _ ?_
     refine qG (decide (a2 < 0)) (Bool.eq_false_iff.2 hg3) ?_
     refine step (v := vi (a0.Switches.length : Int)) (bR (xs := a0.Switches) (e := (D.int .u16)) rfl) ?_
     refine qG (decide (a2 < 0)) (Bool.eq_false_iff.2 hg3) ?_
     refine q1 _ ?_
     refine step (v := vb (decide (a2 ≥ (a0.Switches.length : Int)))) (bk (b := decide (a2 < 0)) rfl hg3 rfl) ?_
     refine q1 _ ?_
     by_cases hg4 : decide (a2 ≥ (a0.Switches.length : Int)) = true
     ·
      iterate 3 refine qX (decide (a2 ≥ (a0.Switches.length : Int))) (by rw [hg4]; decide) ?_
      refine step (v := vb true) (ba (b := decide (a2 ≥ (a0.Switches.length : Int))) rfl hg4 rfl) ?_
      exact aI.nil' (nm [] ⟨.d _, .d _, .d _, .eq (by first | (simp [hg1, hg2, hg3, hg4]; done) | (simp_all; done) | grind), trivial⟩ trivial)
     ·
      refine qG (decide (a2 ≥ (a0.Switches.length : Int))) (Bool.eq_false_iff.2 hg4) ?_
      refine q1 _ ?_
      refine qG (decide (a2 ≥ (a0.Switches.length : Int))) (Bool.eq_false_iff.2 hg4) ?_
      refine q1 _ ?_
      refine qG (decide (a2 ≥ (a0.Switches.length : Int))) (Bool.eq_false_iff.2 hg4) ?_
      refine q1 _ ?_
      refine step (v := vb (a1 == a2)) (bk (b := decide (a2 ≥ (a0.Switches.length : Int))) rfl hg4 rfl) ?_
      exact aI.nil' (nm [] ⟨.d _, .d _, .d _, .eq (by first | (simp [hg1, hg2, hg3, hg4]; done) | (simp_all; done) | grind), trivial⟩ trivial)
 by_cases hc5 : ((decide (a1 < 0)) || ((decide (a1 ≥ (a0.Switches.length : Int))) || ((decide (a2 < 0)) || ((decide (a2 ≥ (a0.Switches.length : Int))) || (a1 == a2))))) = true
 ·
  replace h := bo hc5 h
  refine bb (t := ((decide (a1 < 0)) || ((decide (a1 ≥ (a0.Switches.length : Int))) || ((decide (a2 < 0)) || ((decide (a2 ≥ (a0.Switches.length : Int))) || (a1 == a2)))))) rfl hc5 ?_
  refine ak ⟨tab [(6, vh 0), (7, vb false)], ae [], 0⟩ ?_ ?_
  ·
   iterate 2 refine q1 _ ?_
   exact nR []
  have hh := aC h
  subst hh
  refine bA ?_
  show FQ _ _ _ _
  exact dQ (.inr rfl) (bh (v := vh 0) rfl (bh (v := vb false) rfl rfl)) (RV.d (RV.d trivial))
 ·
  replace h := bp hc5 h
  refine bd (t := ((decide (a1 < 0)) || ((decide (a1 ≥ (a0.Switches.length : Int))) || ((decide (a2 < 0)) || ((decide (a2 ≥ (a0.Switches.length : Int))) || (a1 == a2)))))) rfl hc5 ?_
  refine bf ?_
  obtain ⟨x6, hx6, h⟩ := aB h
  obtain ⟨x7, hx7, h⟩ := aB h
  refine ak ⟨tab [(3, ap a0), (8, vh x6), (9, vh x7)], ae [], 0⟩ ?_ ?_
  ·
   iterate 3 refine q1 _ ?_
   refine step (v := .d (.cptr none (.int .u16 x6) 0)) (bX (xs := a0.Switches) (e := (D.int .u16)) hx6 rfl rfl) ?_
   iterate 4 refine q1 _ ?_
   refine step (v := .d (.cptr none (.int .u16 x7) 0)) (bX (xs := a0.Switches) (e := (D.int .u16)) hx7 rfl rfl) ?_
   iterate 3 refine q1 _ ?_
   exact nR []
  refine aH ?_
  refine ak ⟨tab [(8, vh x6), (9, vh x7), (48, bC a0.Links), (49, vi (a0.Links.length : Int)), (50, vi 0)], ae [], 0⟩ ?_ ?_
  ·
   iterate 2 refine q1 _ ?_
   refine step (v := vi (a0.Links.length : Int)) (bR (xs := a0.Links) (e := (bF eapi_Port)) rfl) ?_
   refine q1 _ ?_
   exact nR []
  obtain ⟨q19, hl, h⟩ := aB h
  refine br ?_
  refine eC (cC (a0.Links.length : Int)) (fun (i8 : Int) (qq : Unit) => ⟨tab [(8, vh x6), (9, vh x7), (48, bC a0.Links), (49, vi (a0.Links.length : Int)), (50, vi i8)], ae [], 0⟩) 0 (fun (qq : Unit) => ⟨tab [], ae [], 0⟩) bu cD (r := r) hl (by unfold bu; omega) ?_ ?_ ?_ ?_
  ·
   rintro i8 ⟨⟩ xr13 hinv11 hgo10 h
   show aG _ _ _ _ _ ⟨tab [(8, vh x6), (9, vh x7), (48, bC a0.Links), (49, vi (a0.Links.length : Int)), (50, vi i8)], ae [], 0⟩
   have hc12 : decide (i8 < (a0.Links.length : Int)) = true := decide_eq_true hgo10
   refine ak ⟨tab [(8, vh x6), (9, vh x7), (48, bC a0.Links), (49, vi (a0.Links.length : Int)), (50, vi i8), (51, vb (decide (i8 < (a0.Links.length : Int))))], ae [], 0⟩ ?_ ?_
   ·
    refine q1 _ ?_
    exact nR []
   refine cB 49 rfl fun hB9 => ?_
   refine aH ?_
   refine bb (t := decide (i8 < (a0.Links.length : Int))) rfl hc12 ?_
   refine bf ?_
   refine aH ?_
   refine br ?_
   obtain ⟨x14, hx14, h⟩ := aB h
   refine ak ⟨tab [(8, vh x6), (9, vh x7), (11, .ptr 0 0 0), (48, bC a0.Links), (49, vi (a0.Links.length : Int)), (50, vi i8)], ae [(0, .var [vh x14.a0.Sw, vh x14.a0.Pt, vh x14.a1.Sw, vh x14.a1.Pt])], 1⟩ ?_ ?_
   ·
    refine step (v := .d (.cptr (some 4) (bF eapi_Port x14) 0)) (bX (xs := a0.Links) (e := (bF eapi_Port)) hx14 rfl rfl) ?_
    refine q1 _ ?_
    refine step (v := .ptr 0 0 0) (σ' := (ah (ae []) 0 (some (.var [vh 0, vh 0, vh 0, vh 0])))) (n' := 1) rfl ?_
    refine step (v := V.undef) (σ' := (ah (ah (ae []) 0 (some (.var [vh 0, vh 0, vh 0, vh 0]))) 0 (some (.var [vh x14.a0.Sw, vh x14.a0.Pt, vh x14.a1.Sw, vh x14.a1.Pt])))) (n' := 1) rfl ?_
    exact nR [0]
   refine br ?_
   refine ak ⟨tab [(8, vh x6), (9, vh x7), (11, .ptr 0 0 0), (48, bC a0.Links), (49, vi (a0.Links.length : Int)), (50, vi i8), (54, vb ((x14.a0.Sw == x6) && (x14.a1.Sw == x7)))], ae [(0, .var [vh x14.a0.Sw, vh x14.a0.Pt, vh x14.a1.Sw, vh x14.a1.Pt])], 1⟩ ?_ ?_
   ·
    iterate 6 refine q1 _ ?_
    by_cases hg15 : (x14.a0.Sw == x6) = true
    ·
     refine qG _ hg15 ?_
     refine q1 _ ?_
     refine qG _ hg15 ?_
     refine q1 _ ?_
     refine qG _ hg15 ?_
     refine q1 _ ?_
     refine qG _ hg15 ?_
     refine q1 _ ?_
     refine qG _ hg15 ?_
     refine q1 _ ?_
     refine step (v := vb (x14.a1.Sw == x7)) (ba (b := (x14.a0.Sw == x6)) rfl hg15 rfl) ?_
     refine q1 _ ?_
     exact aI.nil' (nm [0] ⟨.d _, .d _, .pt 0, .d _, .d _, .d _, .eq (by first | (simp [hg15]; done) | (simp_all; done) | grind), trivial⟩ ⟨⟨show 0 < 1 by decide, _, rfl, .vars ⟨.d _, .d _, .d _, .d _, trivial⟩⟩, trivial⟩)
    ·
     iterate 5 refine qX _ hg15 ?_
     refine step (v := vb false) (bk (b := (x14.a0.Sw == x6)) rfl hg15 rfl) ?_
     refine q1 _ ?_
     exact aI.nil' (nm [0] ⟨.d _, .d _, .pt 0, .d _, .d _, .d _, .eq (by first | (simp [hg15]; done) | (simp_all; done) | grind), trivial⟩ ⟨⟨show 0 < 1 by decide, _, rfl, .vars ⟨.d _, .d _, .d _, .d _, trivial⟩⟩, trivial⟩)
   by_cases hc16 : ((x14.a0.Sw == x6) && (x14.a1.Sw == x7)) = true
   ·
    replace h := bo hc16 h
    refine bb (t := ((x14.a0.Sw == x6) && (x14.a1.Sw == x7))) rfl hc16 ?_
    refine ak ⟨tab [(6, vh x14.a0.Pt), (7, vb true)], ae [], 0⟩ ?_ ?_
    ·
     iterate 5 refine q1 _ ?_
     exact nR []
    obtain ⟨r17, kr17, hr⟩ := dO (o := some (x14.a0.Pt, true)) (g := Br.ret) h
    subst hr
    have h := kr17
    have hh := aC h
    subst hh
    refine bA ?_
    refine And.intro (fun hn => nomatch hn) ?_
    intro hq
    have hq := hq.symm
    subst hq
    show FQ _ _ _ _
    exact dQ (.inr rfl) (bh (v := vh x14.a0.Pt) rfl (bh (v := vb true) rfl rfl)) (RV.d (RV.d trivial))
   ·
    replace h := bp hc16 h
    refine bd (t := ((x14.a0.Sw == x6) && (x14.a1.Sw == x7))) rfl hc16 ?_
    refine ak ⟨tab [(8, vh x6), (9, vh x7), (11, .ptr 0 0 0), (48, bC a0.Links), (49, vi (a0.Links.length : Int)), (50, vi i8), (70, vb ((x14.a1.Sw == x6) && (x14.a0.Sw == x7)))], ae [(0, .var [vh x14.a0.Sw, vh x14.a0.Pt, vh x14.a1.Sw, vh x14.a1.Pt])], 1⟩ ?_ ?_
    ·
     iterate 6 refine q1 _ ?_
     by_cases hg17 : (x14.a1.Sw == x6) = true
     ·
      refine qG _ hg17 ?_
      refine q1 _ ?_
      refine qG _ hg17 ?_
      refine q1 _ ?_
      refine qG _ hg17 ?_
      refine q1 _ ?_
      refine qG _ hg17 ?_
      refine q1 _ ?_
      refine qG _ hg17 ?_
      refine q1 _ ?_
      refine step (v := vb (x14.a0.Sw == x7)) (ba (b := (x14.a1.Sw == x6)) rfl hg17 rfl) ?_
      refine q1 _ ?_
      exact aI.nil' (nm [0] ⟨.d _, .d _, .pt 0, .d _, .d _, .d _, .eq (by first | (simp [hg17]; done) | (simp_all; done) | grind), trivial⟩ ⟨⟨show 0 < 1 by decide, _, rfl, .vars ⟨.d _, .d _, .d _, .d _, trivial⟩⟩, trivial⟩)
     ·
      iterate 5 refine qX _ hg17 ?_
      refine step (v := vb false) (bk (b := (x14.a1.Sw == x6)) rfl hg17 rfl) ?_
      refine q1 _ ?_
      exact aI.nil' (nm [0] ⟨.d _, .d _, .pt 0, .d _, .d _, .d _, .eq (by first | (simp [hg17]; done) | (simp_all; done) | grind), trivial⟩ ⟨⟨show 0 < 1 by decide, _, rfl, .vars ⟨.d _, .d _, .d _, .d _, trivial⟩⟩, trivial⟩)
    by_cases hc18 : ((x14.a1.Sw == x6) && (x14.a0.Sw == x7)) = true
    ·
     replace h := bo hc18 h
     refine bb (t := ((x14.a1.Sw == x6) && (x14.a0.Sw == x7))) rfl hc18 ?_
     refine ak ⟨tab [(6, vh x14.a1.Pt), (7, vb true)], ae [], 0⟩ ?_ ?_
     ·
      iterate 5 refine q1 _ ?_
      exact nR []
     obtain ⟨r19, kr19, hr⟩ := dO (o := some (x14.a1.Pt, true)) (g := Br.ret) h
     subst hr
     have h := kr19
     have hh := aC h
     subst hh
     refine bA ?_
     refine And.intro (fun hn => nomatch hn) ?_
     intro hq
     have hq := hq.symm
     subst hq
     show FQ _ _ _ _
     exact dQ (.inr rfl) (bh (v := vh x14.a1.Pt) rfl (bh (v := vb true) rfl rfl)) (RV.d (RV.d trivial))
    ·
     replace h := bp hc18 h
     refine bd (t := ((x14.a1.Sw == x6) && (x14.a0.Sw == x7))) rfl hc18 ?_
     refine bf ?_
     have hh := aC h
     subst hh
     refine bO ⟨tab [(8, vh x6), (9, vh x7), (48, bC a0.Links), (49, vi (a0.Links.length : Int)), (50, vi (i8 + 1))], ae [], 0⟩ ?_ ?_
     ·
      refine step (v := vi (i8 + 1)) (cx (cz hinv11 hgo10 hB9) rfl rfl) ?_
      refine q1 _ ?_
      exact nR []
     exact And.intro rfl rfl
  ·
   rintro i8 ⟨⟩ hinv11 hgo10
   show aG _ _ _ _ _ ⟨tab [(8, vh x6), (9, vh x7), (48, bC a0.Links), (49, vi (a0.Links.length : Int)), (50, vi i8)], ae [], 0⟩
   have hc12 : ¬ (decide (i8 < (a0.Links.length : Int)) = true) := fun hq => hgo10 (of_decide_eq_true hq)
   refine ak ⟨tab [(8, vh x6), (9, vh x7), (48, bC a0.Links), (49, vi (a0.Links.length : Int)), (50, vi i8), (51, vb (decide (i8 < (a0.Links.length : Int))))], ae [], 0⟩ ?_ ?_
   ·
    refine q1 _ ?_
    exact nR []
   refine aH ?_
   refine bd (t := decide (i8 < (a0.Links.length : Int))) rfl hc12 ?_
   refine bg (s0 := ⟨tab [], ae [], 0⟩) (nr []) ?_
   refine ce ?_
   exact And.intro rfl rfl
  ·
   intro r' hq
   subst hq
   exact aC h
  rintro ⟨⟩ rfl
  refine ak ⟨tab [(6, vh 0), (7, vb false)], ae [], 0⟩ ?_ ?_
  ·
   iterate 2 refine q1 _ ?_
   exact nR []
  have hh := aC h
  subst hh
  refine bA ?_
  show FQ _ _ _ _
  exact dQ (.inr rfl) (bh (v := vh 0) rfl (bh (v := vb false) rfl rfl)) (RV.d (RV.d trivial))
theorem pf {a0 : (List Int)} {a1 : (List Int)} {r : Bool} (h : il a0 a1 = some r) : PCall Try.prog 25 [eL none (D.int .i64) a0, eL none (D.int .i64) a1] (.bool r) := by
 refine PCall.introN tA (show 2 ≤ 26 by decide) ?_
 refine bg (s0 := ⟨tab [(0, aS a0), (1, aS a1)], ae [], 0⟩) (nr []) ?_
 refine ak ⟨tab [(0, aS a0), (1, aS a1)], ae [], 0⟩ ?_ ?_
 ·
  refine q1 _ ?_
  exact nR []
 refine aH ?_
 refine ak ⟨tab [(0, aS a0), (1, aS a1), (10, vb ((a0.length : Int) != (a1.length : Int)))], ae [], 0⟩ ?_ ?_
 ·
  refine q1 _ ?_
  refine step (v := vi (a0.length : Int)) (bR (xs := a0) (e := (D.int .i64)) rfl) ?_
  refine q1 _ ?_
  refine step (v := vi (a1.length : Int)) (bR (xs := a1) (e := (D.int .i64)) rfl) ?_
  refine q1 _ ?_
  exact nR []
 by_cases hc1 : ((a0.length : Int) != (a1.length : Int)) = true
 ·
  replace h := bo hc1 h
  refine bb (t := ((a0.length : Int) != (a1.length : Int))) rfl hc1 ?_
  refine ak ⟨tab [(4, vb false)], ae [], 0⟩ ?_ ?_
  ·
   refine q1 _ ?_
   exact nR []
  have hh := aC h
  subst hh
  refine bA ?_
  show FQ _ _ _ _
  exact bZ (.inr rfl) (bh (v := vb false) rfl rfl) (RV.d trivial)
 ·
  replace h := bp hc1 h
  refine bd (t := ((a0.length : Int) != (a1.length : Int))) rfl hc1 ?_
  refine bf ?_
  refine aH ?_
  refine ak ⟨tab [(0, aS a0), (1, aS a1), (12, vi (a0.length : Int)), (13, vi 0)], ae [], 0⟩ ?_ ?_
  ·
   refine q1 _ ?_
   refine step (v := vi (a0.length : Int)) (bR (xs := a0) (e := (D.int .i64)) rfl) ?_
   refine q1 _ ?_
   exact nR []
  obtain ⟨q11, hl, h⟩ := aB h
  refine br ?_
  refine eC (cC (a0.length : Int)) (fun (i2 : Int) (qq : Unit) => ⟨tab [(0, aS a0), (1, aS a1), (12, vi (a0.length : Int)), (13, vi i2)], ae [], 0⟩) 0 (fun (qq : Unit) => ⟨tab [], ae [], 0⟩) bu cD (r := r) hl (by unfold bu; omega) ?_ ?_ ?_ ?_
  ·
   rintro i2 ⟨⟩ xr7 hinv5 hgo4 h
   show aG _ _ _ _ _ ⟨tab [(0, aS a0), (1, aS a1), (12, vi (a0.length : Int)), (13, vi i2)], ae [], 0⟩
   have hc6 : decide (i2 < (a0.length : Int)) = true := decide_eq_true hgo4
   refine ak ⟨tab [(0, aS a0), (1, aS a1), (12, vi (a0.length : Int)), (13, vi i2), (14, vb (decide (i2 < (a0.length : Int))))], ae [], 0⟩ ?_ ?_
   ·
    refine q1 _ ?_
    exact nR []
   refine cB 12 rfl fun hB3 => ?_
   refine aH ?_
   refine bb (t := decide (i2 < (a0.length : Int))) rfl hc6 ?_
   refine bf ?_
   refine aH ?_
   refine br ?_
   refine ak ⟨tab [(0, aS a0), (1, aS a1), (5, vi i2), (12, vi (a0.length : Int)), (13, vi i2)], ae [], 0⟩ ?_ ?_
   ·
    iterate 2 refine q1 _ ?_
    exact nR []
   obtain ⟨x8, hx8, h⟩ := aB h
   obtain ⟨x9, hx9, h⟩ := aB h
   refine ak ⟨tab [(0, aS a0), (1, aS a1), (12, vi (a0.length : Int)), (13, vi i2), (24, vb (x8 != x9))], ae [], 0⟩ ?_ ?_
   ·
    iterate 2 refine q1 _ ?_
    refine step (v := .d (.cptr none (.int .i64 x8) 0)) (bX (xs := a0) (e := (D.int .i64)) hx8 rfl rfl) ?_
    iterate 3 refine q1 _ ?_
    refine step (v := .d (.cptr none (.int .i64 x9) 0)) (bX (xs := a1) (e := (D.int .i64)) hx9 rfl rfl) ?_
    iterate 2 refine q1 _ ?_
    exact nR []
   by_cases hc10 : (x8 != x9) = true
   ·
    replace h := bo hc10 h
    refine bb (t := (x8 != x9)) rfl hc10 ?_
    refine ak ⟨tab [(4, vb false)], ae [], 0⟩ ?_ ?_
    ·
     refine q1 _ ?_
     exact nR []
    obtain ⟨r11, kr11, hr⟩ := dO (o := some false) (g := Br.ret) h
    subst hr
    have h := kr11
    have hh := aC h
    subst hh
    refine bA ?_
    refine And.intro (fun hn => nomatch hn) ?_
    intro hq
    have hq := hq.symm
    subst hq
    show FQ _ _ _ _
    exact bZ (.inr rfl) (bh (v := vb false) rfl rfl) (RV.d trivial)
   ·
    replace h := bp hc10 h
    refine bd (t := (x8 != x9)) rfl hc10 ?_
    refine bf ?_
    have hh := aC h
    subst hh
    refine bO ⟨tab [(0, aS a0), (1, aS a1), (12, vi (a0.length : Int)), (13, vi (i2 + 1))], ae [], 0⟩ ?_ ?_
    ·
     refine step (v := vi (i2 + 1)) (cx (cz hinv5 hgo4 hB3) rfl rfl) ?_
     refine q1 _ ?_
     exact nR []
    exact And.intro rfl rfl
  ·
   rintro i2 ⟨⟩ hinv5 hgo4
   show aG _ _ _ _ _ ⟨tab [(0, aS a0), (1, aS a1), (12, vi (a0.length : Int)), (13, vi i2)], ae [], 0⟩
   have hc6 : ¬ (decide (i2 < (a0.length : Int)) = true) := fun hq => hgo4 (of_decide_eq_true hq)
   refine ak ⟨tab [(0, aS a0), (1, aS a1), (12, vi (a0.length : Int)), (13, vi i2), (14, vb (decide (i2 < (a0.length : Int))))], ae [], 0⟩ ?_ ?_
   ·
    refine q1 _ ?_
    exact nR []
   refine aH ?_
   refine bd (t := decide (i2 < (a0.length : Int))) rfl hc6 ?_
   refine bg (s0 := ⟨tab [], ae [], 0⟩) (nr []) ?_
   refine ce ?_
   exact And.intro rfl rfl
  ·
   intro r' hq
   subst hq
   exact aC h
  rintro ⟨⟩ rfl
  refine ak ⟨tab [(4, vb true)], ae [], 0⟩ ?_ ?_
  ·
   refine q1 _ ?_
   exact nR []
  have hh := aC h
  subst hh
  refine bA ?_
  show FQ _ _ _ _
  exact bZ (.inr rfl) (bh (v := vb true) rfl rfl) (RV.d trivial)
theorem pg {a0 : api_Topo} {a1 : Int} {a2 : Int} {r : Int} (h : fV a0 a1 a2 = some r) : PCall Try.prog 26 [eapi_Topo a0, .int .i64 a1, .int .i64 a2] (.int .i64 r) := by
 refine PCall.introN tC (show 3 ≤ 26 by decide) ?_
 refine bg (s0 := ⟨tab [(0, vs1 a0), (1, vi a1), (2, vi a2)], ae [], 0⟩) (nr []) ?_
 refine ak ⟨tab [(1, vi a1), (2, vi a2), (3, ap a0)], ae [], 0⟩ ?_ ?_
 ·
  iterate 2 refine q1 _ ?_
  exact nR []
 obtain ⟨r1, hr1, h⟩ := aB h
 refine ak ⟨tab [(1, vi a1), (2, vi a2), (7, .d (eL none (eL none (D.int .i64)) r1))], ae [], 0⟩ ?_ ?_
 ·
  refine q1 _ ?_
  refine bI (r := eL none (eL none (D.int .i64)) r1) (aK (aK a8.nil')) (ma hr1) ?_
  refine q1 _ ?_
  exact nR []
 refine aH ?_
 obtain ⟨r2, hr2, h⟩ := aB h
 obtain ⟨y5, hv, h⟩ := aB h
 refine ak ⟨tab [(1, vi a1), (2, vi a2), (7, .d (eL none (eL none (D.int .i64)) r1)), (19, vb y5)], ae [], 0⟩ ?_ ?_
 ·
  iterate 2 refine q1 _ ?_
  refine bI (r := .bool r2) (aK (aK a8.nil')) (je hr2) ?_
  iterate 2 refine q1 _ ?_
  by_cases hg3 : (!r2) = true
  ·
   replace hv := bo hg3 hv
   iterate 4 refine qX (!r2) (by rw [hg3]; decide) ?_
   refine step (v := vb true) (ba (b := (!r2)) rfl hg3 rfl) ?_
   have hh := aC hv
   subst hh
   exact nR []
  ·
   replace hv := bp hg3 hv
   obtain ⟨r4, hr4, hv⟩ := aB hv
   refine qG (!r2) (Bool.eq_false_iff.2 hg3) ?_
   refine q1 _ ?_
   refine qG (!r2) (Bool.eq_false_iff.2 hg3) ?_
   refine q1 _ ?_
   refine qG (!r2) (Bool.eq_false_iff.2 hg3) ?_
   refine bI (r := .bool r4) (aK (aK a8.nil')) (je hr4) ?_
   refine qG (!r2) (Bool.eq_false_iff.2 hg3) ?_
   refine q1 _ ?_
   refine step (v := vb (!r4)) (bk (b := (!r2)) rfl hg3 rfl) ?_
   have hh := aC hv
   subst hh
   exact nR []
 by_cases hc7 : y5 = true
 ·
  replace h := bo hc7 h
  refine bb (t := y5) rfl hc7 ?_
  refine ak ⟨tab [(6, vi (-1))], ae [], 0⟩ ?_ ?_
  ·
   refine q1 _ ?_
   exact nR []
  have hh := aC h
  subst hh
  refine bA ?_
  show FQ _ _ _ _
  exact bZ (.inr rfl) (bh (v := vi (-1)) rfl rfl) (RV.d trivial)
 ·
  replace h := bp hc7 h
  refine bd (t := y5) rfl hc7 ?_
  refine bf ?_
  obtain ⟨r8, hr8, h⟩ := aB h
  obtain ⟨x9, hx9, h⟩ := aB h
  refine ak ⟨tab [(6, vi x9)], ae [], 0⟩ ?_ ?_
  ·
   iterate 2 refine q1 _ ?_
   refine bI (r := eL none (D.int .i64) r8) (aK (aK a8.nil')) (mb hr8) ?_
   refine q1 _ ?_
   refine step (v := .d (.cptr none (.int .i64 x9) 0)) (bX (xs := r8) (e := (D.int .i64)) hx9 rfl rfl) ?_
   iterate 2 refine q1 _ ?_
   exact nR []
  have hh := aC h
  subst hh
  refine bA ?_
  show FQ _ _ _ _
  exact bZ (.inr rfl) (bh (v := vi x9) rfl rfl) (RV.d trivial)
theorem uP {a0 : api_Topo} {r : (List Int)} (h : mn a0 = some r) : PCall Try.prog 35 [eapi_Topo a0] (eL none (D.int .i64) r) := by
 refine PCall.introN tF (show 1 ≤ 54 by decide) ?_
 refine bg (s0 := ⟨tab [(0, vs1 a0)], ae [], 0⟩) (nr []) ?_
 refine ak ⟨tab [(1, ap a0)], ae [], 0⟩ ?_ ?_
 ·
  iterate 2 refine q1 _ ?_
  exact nR []
 refine ak ⟨tab [(1, ap a0), (3, .d (.nils))], ae [], 0⟩ ?_ ?_
 ·
  refine q1 _ ?_
  exact nR []
 refine aH ?_
 refine ak ⟨tab [(1, ap a0), (3, .d (.nils)), (11, bC a0.Links), (12, vi (a0.Links.length : Int)), (13, vi 0)], ae [], 0⟩ ?_ ?_
 ·
  iterate 2 refine q1 _ ?_
  refine step (v := vi (a0.Links.length : Int)) (bR (xs := a0.Links) (e := (bF eapi_Port)) rfl) ?_
  refine q1 _ ?_
  exact nR []
 obtain ⟨z21, hl, h⟩ := aB h
 refine bg (s0 := ⟨tab [(1, ap a0), (3, .loc 0 0 (([] : List Int).length)), (11, bC a0.Links), (12, vi (a0.Links.length : Int)), (13, vi 0)], ae [(0, .lst false none (List.map (D.int .i64) ([] : List Int)))], 1⟩) (bn.trans (s2 := ⟨tab [(1, ap a0), (3, .loc 0 0 (([] : List Int).length)), (11, bC a0.Links), (12, vi (a0.Links.length : Int)), (13, vi 0)], ae [(0, .lst false none (List.map (D.int .i64) ([] : List Int)))], 1⟩) (ov 3 false none rfl) (nr [0])) ?_
 refine br ?_
 refine e7 (cC (a0.Links.length : Int)) (fun (i2 : Int) (qq : (List Int)) => ⟨tab [(1, ap a0), (3, .loc 0 0 qq.length), (11, bC a0.Links), (12, vi (a0.Links.length : Int)), (13, vi i2)], ae [(0, .lst false none (List.map (D.int .i64) qq))], 1⟩) 0 (fun (qq : (List Int)) => ⟨tab [(3, .loc 0 0 qq.length)], ae [(0, .lst false none (List.map (D.int .i64) qq))], 1⟩) bu cD hl (by unfold bu; omega) ?_ ?_ ?_
 ·
  rintro i2 l1 xr7 hinv5 hgo4 h
  show aG _ _ _ _ _ ⟨tab [(1, ap a0), (3, .loc 0 0 l1.length), (11, bC a0.Links), (12, vi (a0.Links.length : Int)), (13, vi i2)], ae [(0, .lst false none (List.map (D.int .i64) l1))], 1⟩
  have hc6 : decide (i2 < (a0.Links.length : Int)) = true := decide_eq_true hgo4
  refine ak ⟨tab [(1, ap a0), (3, .loc 0 0 l1.length), (11, bC a0.Links), (12, vi (a0.Links.length : Int)), (13, vi i2), (14, vb (decide (i2 < (a0.Links.length : Int))))], ae [(0, .lst false none (List.map (D.int .i64) l1))], 1⟩ ?_ ?_
  ·
   refine q1 _ ?_
   exact nR [0]
  refine cB 12 rfl fun hB3 => ?_
  refine aH ?_
  refine bb (t := decide (i2 < (a0.Links.length : Int))) rfl hc6 ?_
  refine bf ?_
  obtain ⟨l19, hv, h⟩ := aB h
  refine iO ⟨tab [(1, ap a0), (3, .loc 0 0 l19.length), (11, bC a0.Links), (12, vi (a0.Links.length : Int)), (13, vi i2)], ae [(0, .lst false none (List.map (D.int .i64) l19))], 1⟩ ?_ ?_
  ·
   replace h := hv
   refine br ?_
   obtain ⟨x8, hx8, h⟩ := aB h
   refine ak ⟨tab [(1, ap a0), (3, .loc 0 0 l1.length), (4, vi i2), (5, .ptr 1 0 0), (11, bC a0.Links), (12, vi (a0.Links.length : Int)), (13, vi i2)], ae [(0, .lst false none (List.map (D.int .i64) l1)), (1, .var [vh x8.a0.Sw, vh x8.a0.Pt, vh x8.a1.Sw, vh x8.a1.Pt])], 2⟩ ?_ ?_
   ·
    refine q1 _ ?_
    refine step (v := .d (.cptr (some 4) (bF eapi_Port x8) 0)) (bX (xs := a0.Links) (e := (bF eapi_Port)) hx8 rfl rfl) ?_
    refine q1 _ ?_
    refine step (v := .ptr 1 0 0) (σ' := (ah (ae [(0, .lst false none (List.map (D.int .i64) l1))]) 1 (some (.var [vh 0, vh 0, vh 0, vh 0])))) (n' := 2) rfl ?_
    refine q1 _ ?_
    refine step (v := V.undef) (σ' := (ah (ah (ae [(0, .lst false none (List.map (D.int .i64) l1))]) 1 (some (.var [vh 0, vh 0, vh 0, vh 0]))) 1 (some (.var [vh x8.a0.Sw, vh x8.a0.Pt, vh x8.a1.Sw, vh x8.a1.Pt])))) (n' := 2) rfl ?_
    exact nR [0, 1]
   obtain ⟨r9, hr9, h⟩ := aB h
   refine ak ⟨tab [(1, ap a0), (3, .loc 0 0 l1.length), (4, vi i2), (5, .ptr 1 0 0), (6, vi r9.1), (11, bC a0.Links), (12, vi (a0.Links.length : Int)), (13, vi i2)], ae [(0, .lst false none (List.map (D.int .i64) l1)), (1, .var [vh x8.a0.Sw, vh x8.a0.Pt, vh x8.a1.Sw, vh x8.a1.Pt])], 2⟩ ?_ ?_
   ·
    iterate 4 refine q1 _ ?_
    refine bI (r := .tup [.int .i64 r9.1, .bool r9.2]) (aK (aK a8.nil')) (j8 hr9) ?_
    iterate 5 refine q1 _ ?_
    exact nR [0, 1]
   obtain ⟨r10, hr10, h⟩ := aB h
   refine ak ⟨tab [(1, ap a0), (3, .loc 0 0 l1.length), (4, vi i2), (6, vi r9.1), (8, vi r10.1), (11, bC a0.Links), (12, vi (a0.Links.length : Int)), (13, vi i2)], ae [(0, .lst false none (List.map (D.int .i64) l1))], 1⟩ ?_ ?_
   ·
    iterate 4 refine q1 _ ?_
    refine bI (r := .tup [.int .i64 r10.1, .bool r10.2]) (aK (aK a8.nil')) (j8 hr10) ?_
    iterate 5 refine q1 _ ?_
    exact nR [0]
   obtain ⟨y15, hv, h⟩ := aB h
   refine ak ⟨tab [(1, ap a0), (3, .loc 0 0 l1.length), (4, vi i2), (11, bC a0.Links), (12, vi (a0.Links.length : Int)), (13, vi i2), (47, vb y15)], ae [(0, .lst false none (List.map (D.int .i64) l1))], 1⟩ ?_ ?_
   ·
    iterate 4 refine q1 _ ?_
    by_cases hg11 : (r9.1 != r10.1) = true
    ·
     replace hv := bo hg11 hv
     obtain ⟨r12, hr12, hv⟩ := aB hv
     obtain ⟨r13, hr13, hv⟩ := aB hv
     obtain ⟨x14, hx14, hv⟩ := aB hv
     refine qG _ hg11 ?_
     refine q1 _ ?_
     refine qG _ hg11 ?_
     refine q1 _ ?_
     refine qG _ hg11 ?_
     refine bI (r := eL none (eL none (D.int .i64)) r12) (aK (aK a8.nil')) (ma hr12) ?_
     refine qG _ hg11 ?_
     refine q1 _ ?_
     refine qG _ hg11 ?_
     refine bI (r := eL none (D.int .i64) r13) (aK (aK a8.nil')) (mb hr13) ?_
     refine qG _ hg11 ?_
     refine q1 _ ?_
     refine qG _ hg11 ?_
     refine step (v := .d (.cptr none (.int .i64 x14) 0)) (bX (xs := r13) (e := (D.int .i64)) hx14 rfl rfl) ?_
     refine qG _ hg11 ?_
     refine q1 _ ?_
     refine qG _ hg11 ?_
     refine q1 _ ?_
     refine step (v := vb (decide (x14 < 0))) (ba (b := (r9.1 != r10.1)) rfl hg11 rfl) ?_
     have hh := aC hv
     subst hh
     exact nR [0]
    ·
     replace hv := bp hg11 hv
     iterate 9 refine qX _ hg11 ?_
     refine step (v := vb false) (bk (b := (r9.1 != r10.1)) rfl hg11 rfl) ?_
     have hh := aC hv
     subst hh
     exact nR [0]
   by_cases hc17 : y15 = true
   ·
    replace h := bo hc17 h
    refine bb (t := y15) rfl hc17 ?_
    obtain ⟨l18, hl18, h⟩ := aB h
    have hh := aC h
    subst hh
    refine bO ⟨tab [(1, ap a0), (3, .loc 0 0 l18.length), (11, bC a0.Links), (12, vi (a0.Links.length : Int)), (13, vi i2)], ae [(0, .lst false none (List.map (D.int .i64) l18))], 1⟩ ?_ ?_
    ·
     iterate 3 refine q1 _ ?_
     refine step (v := .loc 1 0 l18.length) (σ' := (ah (ah (ae [(0, .lst false none (List.map (D.int .i64) l1))]) 0 none) 1 (some (.lst false none (List.map (D.int .i64) l18))))) (n' := 2) (iS (xs := l1) (ys := ([i2] : List Int)) (e := (D.int .i64)) hl18 rfl rfl rfl (iR (xs := ([i2] : List Int)) (e := (D.int .i64)) rfl)) ?_
     refine q1 _ ?_
     exact nR [1]
    exact And.intro rfl rfl
   ·
    replace h := bp hc17 h
    refine bd (t := y15) rfl hc17 ?_
    have hh := aC h
    subst hh
    refine bg (s0 := ⟨tab [(1, ap a0), (3, .loc 0 0 l1.length), (11, bC a0.Links), (12, vi (a0.Links.length : Int)), (13, vi i2)], ae [(0, .lst false none (List.map (D.int .i64) l1))], 1⟩) (nr [0]) ?_
    refine bf ?_
    exact And.intro rfl rfl
  have hh := aC h
  subst hh
  refine bO ⟨tab [(1, ap a0), (3, .loc 0 0 l19.length), (11, bC a0.Links), (12, vi (a0.Links.length : Int)), (13, vi (i2 + 1))], ae [(0, .lst false none (List.map (D.int .i64) l19))], 1⟩ ?_ ?_
  ·
   refine step (v := vi (i2 + 1)) (cx (cz hinv5 hgo4 hB3) rfl rfl) ?_
   refine q1 _ ?_
   exact nR [0]
  exact And.intro rfl rfl
 ·
  rintro i2 l1 hinv5 hgo4
  show aG _ _ _ _ _ ⟨tab [(1, ap a0), (3, .loc 0 0 l1.length), (11, bC a0.Links), (12, vi (a0.Links.length : Int)), (13, vi i2)], ae [(0, .lst false none (List.map (D.int .i64) l1))], 1⟩
  have hc6 : ¬ (decide (i2 < (a0.Links.length : Int)) = true) := fun hq => hgo4 (of_decide_eq_true hq)
  refine ak ⟨tab [(1, ap a0), (3, .loc 0 0 l1.length), (11, bC a0.Links), (12, vi (a0.Links.length : Int)), (13, vi i2), (14, vb (decide (i2 < (a0.Links.length : Int))))], ae [(0, .lst false none (List.map (D.int .i64) l1))], 1⟩ ?_ ?_
  ·
   refine q1 _ ?_
   exact nR [0]
  refine aH ?_
  refine bd (t := decide (i2 < (a0.Links.length : Int))) rfl hc6 ?_
  refine bg (s0 := ⟨tab [(3, .loc 0 0 l1.length)], ae [(0, .lst false none (List.map (D.int .i64) l1))], 1⟩) (nr [0]) ?_
  refine ce ?_
  exact And.intro rfl rfl
 refine ak ⟨tab [(2, .loc 0 0 z21.length)], ae [(0, .lst false none (List.map (D.int .i64) z21))], 1⟩ ?_ ?_
 ·
  iterate 2 refine q1 _ ?_
  exact nR [0]
 have hh := aC h
 subst hh
 refine bA ?_
 show FQ _ _ _ _
 exact bZ (.inr rfl) (bh (v := .loc 0 0 z21.length) rfl rfl) (RV.loc (xs := z21) (e := (D.int .i64)) rfl rfl trivial)
theorem uQ  {r : Bool} (h : kh  = some r) : PCall Try.prog 21 [] (.bool r) := by
 refine PCall.introN tH (show 0 ≤ 49 by decide) ?_
 refine bg (s0 := ⟨tab [], ae [], 0⟩) (nr []) ?_
 refine ak ⟨tab [], ae [], 0⟩ ?_ ?_
 ·
  refine q1 _ ?_
  exact nR []
 refine ak ⟨tab [(1, .ptr 0 0 0)], ae [(0, .var [dp ([5, 6, 7] : List Int), bC ([(A2.mk (api_Port.mk 5 1) (api_Port.mk 6 1)), (A2.mk (api_Port.mk 7 1) (api_Port.mk 6 2))] : List (A2 api_Port)), bU []])], 1⟩ ?_ ?_
 ·
  refine q1 _ ?_
  refine step (v := vs2 (api_Port.mk 5 1)) (fu (ds := [.int .u16 5, .int .u16 1]) rfl) ?_
  refine step (v := vs2 (api_Port.mk 6 1)) (fu (ds := [.int .u16 6, .int .u16 1]) rfl) ?_
  refine step (v := .d (bF eapi_Port (A2.mk (api_Port.mk 5 1) (api_Port.mk 6 1)))) (fu (ds := [.int .u16 5, .int .u16 1, .int .u16 6, .int .u16 1]) rfl) ?_
  refine step (v := vs2 (api_Port.mk 7 1)) (fu (ds := [.int .u16 7, .int .u16 1]) rfl) ?_
  refine step (v := vs2 (api_Port.mk 6 2)) (fu (ds := [.int .u16 6, .int .u16 2]) rfl) ?_
  refine step (v := .d (bF eapi_Port (A2.mk (api_Port.mk 7 1) (api_Port.mk 6 2)))) (fu (ds := [.int .u16 7, .int .u16 1, .int .u16 6, .int .u16 2]) rfl) ?_
  refine q1 _ ?_
  refine step (v := vs1 (api_Topo.mk ([5, 6, 7] : List Int) ([(A2.mk (api_Port.mk 5 1) (api_Port.mk 6 1)), (A2.mk (api_Port.mk 7 1) (api_Port.mk 6 2))] : List (A2 api_Port)) [])) (fu (ds := [eL none (D.int .u16) ([5, 6, 7] : List Int), eL (some 4) (bF eapi_Port) ([(A2.mk (api_Port.mk 5 1) (api_Port.mk 6 1)), (A2.mk (api_Port.mk 7 1) (api_Port.mk 6 2))] : List (A2 api_Port)), eL (some 2) eapi_Port []]) rfl) ?_
  refine step (v := .ptr 0 0 0) (σ' := (ah (ae []) 0 (some (.var [dp [], bC [], bU []])))) (n' := 1) rfl ?_
  refine step (v := V.undef) (σ' := (ah (ah (ae []) 0 (some (.var [dp [], bC [], bU []]))) 0 (some (.var [dp ([5, 6, 7] : List Int), bC ([(A2.mk (api_Port.mk 5 1) (api_Port.mk 6 1)), (A2.mk (api_Port.mk 7 1) (api_Port.mk 6 2))] : List (A2 api_Port)), bU []])))) (n' := 1) rfl ?_
  exact nR [0]
 obtain ⟨r1, hr1, h⟩ := aB h
 refine ak ⟨tab [(1, .ptr 0 0 0), (2, aS r1.1), (3, vb r1.2)], ae [(0, .var [dp ([5, 6, 7] : List Int), bC ([(A2.mk (api_Port.mk 5 1) (api_Port.mk 6 1)), (A2.mk (api_Port.mk 7 1) (api_Port.mk 6 2))] : List (A2 api_Port)), bU []])], 1⟩ ?_ ?_
 ·
  refine step (v := vs1 (api_Topo.mk ([5, 6, 7] : List Int) ([(A2.mk (api_Port.mk 5 1) (api_Port.mk 6 1)), (A2.mk (api_Port.mk 7 1) (api_Port.mk 6 2))] : List (A2 api_Port)) [])) (jS (ds := [eL none (D.int .u16) ([5, 6, 7] : List Int), eL (some 4) (bF eapi_Port) ([(A2.mk (api_Port.mk 5 1) (api_Port.mk 6 1)), (A2.mk (api_Port.mk 7 1) (api_Port.mk 6 2))] : List (A2 api_Port)), eL (some 2) eapi_Port []]) rfl rfl (show 3 ≤ 3 by decide) rfl) ?_
  refine bI (r := .tup [eL none (D.int .i64) r1.1, .bool r1.2]) (aK (aK (aK a8.nil'))) (pd hr1) ?_
  iterate 5 refine q1 _ ?_
  exact nR [0]
 obtain ⟨r2, hr2, h⟩ := aB h
 refine ak ⟨tab [(1, .ptr 0 0 0), (2, aS r1.1), (3, vb r1.2), (4, vh r2.1), (5, vb r2.2)], ae [(0, .var [dp ([5, 6, 7] : List Int), bC ([(A2.mk (api_Port.mk 5 1) (api_Port.mk 6 1)), (A2.mk (api_Port.mk 7 1) (api_Port.mk 6 2))] : List (A2 api_Port)), bU []])], 1⟩ ?_ ?_
 ·
  refine step (v := vs1 (api_Topo.mk ([5, 6, 7] : List Int) ([(A2.mk (api_Port.mk 5 1) (api_Port.mk 6 1)), (A2.mk (api_Port.mk 7 1) (api_Port.mk 6 2))] : List (A2 api_Port)) [])) (jS (ds := [eL none (D.int .u16) ([5, 6, 7] : List Int), eL (some 4) (bF eapi_Port) ([(A2.mk (api_Port.mk 5 1) (api_Port.mk 6 1)), (A2.mk (api_Port.mk 7 1) (api_Port.mk 6 2))] : List (A2 api_Port)), eL (some 2) eapi_Port []]) rfl rfl (show 3 ≤ 3 by decide) rfl) ?_
  refine bI (r := .tup [.int .u16 r2.1, .bool r2.2]) (aK (aK (aK a8.nil'))) (pe hr2) ?_
  iterate 5 refine q1 _ ?_
  exact nR [0]
 obtain ⟨y11, hv, h⟩ := aB h
 refine ak ⟨tab [(0, vb y11)], ae [], 0⟩ ?_ ?_
 ·
  iterate 2 refine q1 _ ?_
  by_cases hg3 : r1.2 = true
  ·
   replace hv := bo hg3 hv
   refine qG _ hg3 ?_
   refine q1 _ ?_
   refine step (v := vb r2.2) (ba (b := r1.2) rfl hg3 rfl) ?_
   refine q1 _ ?_
   by_cases hg4 : r2.2 = true
   ·
    replace hv := bo hg4 hv
    obtain ⟨r5, hr5, hv⟩ := aB hv
    refine qG _ hg4 ?_
    refine q1 _ ?_
    refine qG _ hg4 ?_
    refine q1 _ ?_
    refine qG _ hg4 ?_
    refine bI (r := .bool r5) (aK (aK a8.nil')) (pf hr5) ?_
    refine step (v := vb r5) (ba (b := r2.2) rfl hg4 rfl) ?_
    refine q1 _ ?_
    by_cases hg6 : r5 = true
    ·
     replace hv := bo hg6 hv
     refine qG _ hg6 ?_
     refine q1 _ ?_
     refine qG _ hg6 ?_
     refine q1 _ ?_
     refine step (v := vb (r2.1 == 2)) (ba (b := r5) rfl hg6 rfl) ?_
     refine q1 _ ?_
     by_cases hg7 : (r2.1 == 2) = true
     ·
      replace hv := bo hg7 hv
      obtain ⟨r8, hr8, hv⟩ := aB hv
      refine qG _ hg7 ?_
      refine step (v := vs1 (api_Topo.mk ([5, 6, 7] : List Int) ([(A2.mk (api_Port.mk 5 1) (api_Port.mk 6 1)), (A2.mk (api_Port.mk 7 1) (api_Port.mk 6 2))] : List (A2 api_Port)) [])) (jS (ds := [eL none (D.int .u16) ([5, 6, 7] : List Int), eL (some 4) (bF eapi_Port) ([(A2.mk (api_Port.mk 5 1) (api_Port.mk 6 1)), (A2.mk (api_Port.mk 7 1) (api_Port.mk 6 2))] : List (A2 api_Port)), eL (some 2) eapi_Port []]) rfl rfl (show 3 ≤ 3 by decide) rfl) ?_
      refine qG _ hg7 ?_
      refine bI (r := .int .i64 r8) (aK (aK (aK a8.nil'))) (pg hr8) ?_
      refine qG _ hg7 ?_
      refine q1 _ ?_
      refine step (v := vb (r8 == 2)) (ba (b := (r2.1 == 2)) rfl hg7 rfl) ?_
      refine q1 _ ?_
      by_cases hg9 : (r8 == 2) = true
      ·
       replace hv := bo hg9 hv
       obtain ⟨r10, hr10, hv⟩ := aB hv
       refine qG _ hg9 ?_
       refine step (v := vs1 (api_Topo.mk ([5, 6, 7] : List Int) ([(A2.mk (api_Port.mk 5 1) (api_Port.mk 6 1)), (A2.mk (api_Port.mk 7 1) (api_Port.mk 6 2))] : List (A2 api_Port)) [])) (jS (ds := [eL none (D.int .u16) ([5, 6, 7] : List Int), eL (some 4) (bF eapi_Port) ([(A2.mk (api_Port.mk 5 1) (api_Port.mk 6 1)), (A2.mk (api_Port.mk 7 1) (api_Port.mk 6 2))] : List (A2 api_Port)), eL (some 2) eapi_Port []]) rfl rfl (show 3 ≤ 3 by decide) rfl) ?_
       refine qG _ hg9 ?_
       refine bI (r := eL none (D.int .i64) r10) (aK a8.nil') (uP hr10) ?_
       refine qG _ hg9 ?_
       refine step (v := vi (r10.length : Int)) (bR (xs := r10) (e := (D.int .i64)) rfl) ?_
       refine qG _ hg9 ?_
       refine q1 _ ?_
       refine step (v := vb ((r10.length : Int) == 2)) (ba (b := (r8 == 2)) rfl hg9 rfl) ?_
       refine q1 _ ?_
       have hh := aC hv
       subst hh
       exact nR []
      ·
       replace hv := bp hg9 hv
       iterate 4 refine qX _ hg9 ?_
       refine step (v := vb false) (bk (b := (r8 == 2)) rfl hg9 rfl) ?_
       refine q1 _ ?_
       have hh := aC hv
       subst hh
       exact nR []
     ·
      replace hv := bp hg7 hv
      iterate 3 refine qX _ hg7 ?_
      refine step (v := vb false) (bk (b := (r2.1 == 2)) rfl hg7 rfl) ?_
      refine q1 _ ?_
      iterate 4 refine qX false (by decide) ?_
      refine step (v := vb false) (bk (b := false) rfl (by decide) rfl) ?_
      refine q1 _ ?_
      have hh := aC hv
      subst hh
      exact nR []
    ·
     replace hv := bp hg6 hv
     iterate 2 refine qX _ hg6 ?_
     refine step (v := vb false) (bk (b := r5) rfl hg6 rfl) ?_
     refine q1 _ ?_
     iterate 3 refine qX false (by decide) ?_
     refine step (v := vb false) (bk (b := false) rfl (by decide) rfl) ?_
     refine q1 _ ?_
     iterate 4 refine qX false (by decide) ?_
     refine step (v := vb false) (bk (b := false) rfl (by decide) rfl) ?_
     refine q1 _ ?_
     have hh := aC hv
     subst hh
     exact nR []
   ·
    replace hv := bp hg4 hv
    iterate 3 refine qX _ hg4 ?_
    refine step (v := vb false) (bk (b := r2.2) rfl hg4 rfl) ?_
    refine q1 _ ?_
    iterate 2 refine qX false (by decide) ?_
    refine step (v := vb false) (bk (b := false) rfl (by decide) rfl) ?_
    refine q1 _ ?_
    iterate 3 refine qX false (by decide) ?_
    refine step (v := vb false) (bk (b := false) rfl (by decide) rfl) ?_
    refine q1 _ ?_
    iterate 4 refine qX false (by decide) ?_
    refine step (v := vb false) (bk (b := false) rfl (by decide) rfl) ?_
    refine q1 _ ?_
    have hh := aC hv
    subst hh
    exact nR []
  ·
   replace hv := bp hg3 hv
   refine qX _ hg3 ?_
   refine step (v := vb false) (bk (b := r1.2) rfl hg3 rfl) ?_
   refine q1 _ ?_
   iterate 3 refine qX false (by decide) ?_
   refine step (v := vb false) (bk (b := false) rfl (by decide) rfl) ?_
   refine q1 _ ?_
   iterate 2 refine qX false (by decide) ?_
   refine step (v := vb false) (bk (b := false) rfl (by decide) rfl) ?_
   refine q1 _ ?_
   iterate 3 refine qX false (by decide) ?_
   refine step (v := vb false) (bk (b := false) rfl (by decide) rfl) ?_
   refine q1 _ ?_
   iterate 4 refine qX false (by decide) ?_
   refine step (v := vb false) (bk (b := false) rfl (by decide) rfl) ?_
   refine q1 _ ?_
   have hh := aC hv
   subst hh
   exact nR []
 have hh := aC h
 subst hh
 refine bA ?_
 show FQ _ _ _ _
 exact bZ (.inr rfl) (bh (v := vb y11) rfl rfl) (RV.d trivial)
theorem ka {a0 : api_Topo} {a1 : Int} {r : Int} (h : fW a0 a1 = some r) : PCall Try.prog 54 [eapi_Topo a0, .int .u16 a1] (.int .i64 r) := by
 refine PCall.introN tK (show 2 ≤ 21 by decide) ?_
 refine bg (s0 := ⟨tab [(0, vs1 a0), (1, vh a1)], ae [], 0⟩) (nr []) ?_
 refine ak ⟨tab [(1, vh a1), (2, ap a0)], ae [], 0⟩ ?_ ?_
 ·
  iterate 2 refine q1 _ ?_
  exact nR []
 refine aH ?_
 refine ak ⟨tab [(1, vh a1), (2, ap a0), (5, vi 0)], ae [], 0⟩ ?_ ?_
 ·
  refine q1 _ ?_
  exact nR []
 obtain ⟨q9, hl, h⟩ := aB h
 refine br ?_
 refine eC (cC (a0.Switches.length : Int)) (fun (i1 : Int) (qq : Unit) => ⟨tab [(1, vh a1), (2, ap a0), (5, vi i1)], ae [], 0⟩) 0 (fun (qq : Unit) => ⟨tab [], ae [], 0⟩) bu cD (r := r) hl (by unfold bu; omega) ?_ ?_ ?_ ?_
 ·
  rintro i1 ⟨⟩ xr6 hinv4 hgo3 h
  show aG _ _ _ _ _ ⟨tab [(1, vh a1), (2, ap a0), (5, vi i1)], ae [], 0⟩
  have hc5 : decide (i1 < (a0.Switches.length : Int)) = true := decide_eq_true hgo3
  refine aH ?_
  refine ak ⟨tab [(1, vh a1), (2, ap a0), (5, vi i1), (9, vi (a0.Switches.length : Int)), (10, vb (decide (i1 < (a0.Switches.length : Int))))], ae [], 0⟩ ?_ ?_
  ·
   iterate 3 refine q1 _ ?_
   refine step (v := vi (a0.Switches.length : Int)) (bR (xs := a0.Switches) (e := (D.int .u16)) rfl) ?_
   refine q1 _ ?_
   exact nR []
  refine cB 9 rfl fun hB2 => ?_
  refine bb (t := decide (i1 < (a0.Switches.length : Int))) rfl hc5 ?_
  refine bf ?_
  refine aH ?_
  refine br ?_
  obtain ⟨x7, hx7, h⟩ := aB h
  refine ak ⟨tab [(1, vh a1), (2, ap a0), (5, vi i1), (19, vb (x7 == a1))], ae [], 0⟩ ?_ ?_
  ·
   iterate 3 refine q1 _ ?_
   refine step (v := .d (.cptr none (.int .u16 x7) 0)) (bX (xs := a0.Switches) (e := (D.int .u16)) hx7 rfl rfl) ?_
   iterate 3 refine q1 _ ?_
   exact nR []
  by_cases hc8 : (x7 == a1) = true
  ·
   replace h := bo hc8 h
   refine bb (t := (x7 == a1)) rfl hc8 ?_
   refine ak ⟨tab [(4, vi i1)], ae [], 0⟩ ?_ ?_
   ·
    iterate 2 refine q1 _ ?_
    exact nR []
   obtain ⟨r9, kr9, hr⟩ := dO (o := some i1) (g := Br.ret) h
   subst hr
   have h := kr9
   have hh := aC h
   subst hh
   refine bA ?_
   refine And.intro (fun hn => nomatch hn) ?_
   intro hq
   have hq := hq.symm
   subst hq
   show FQ _ _ _ _
   exact bZ (.inr rfl) (bh (v := vi i1) rfl rfl) (RV.d trivial)
  ·
   replace h := bp hc8 h
   refine bd (t := (x7 == a1)) rfl hc8 ?_
   refine bf ?_
   have hh := aC h
   subst hh
   refine bO ⟨tab [(1, vh a1), (2, ap a0), (5, vi (i1 + 1))], ae [], 0⟩ ?_ ?_
   ·
    refine q1 _ ?_
    refine step (v := vi (i1 + 1)) (cx (cz hinv4 hgo3 hB2) rfl rfl) ?_
    refine q1 _ ?_
    exact nR []
   exact And.intro rfl rfl
 ·
  rintro i1 ⟨⟩ hinv4 hgo3
  show aG _ _ _ _ _ ⟨tab [(1, vh a1), (2, ap a0), (5, vi i1)], ae [], 0⟩
  have hc5 : ¬ (decide (i1 < (a0.Switches.length : Int)) = true) := fun hq => hgo3 (of_decide_eq_true hq)
  refine aH ?_
  refine ak ⟨tab [(1, vh a1), (2, ap a0), (5, vi i1), (10, vb (decide (i1 < (a0.Switches.length : Int))))], ae [], 0⟩ ?_ ?_
  ·
   iterate 3 refine q1 _ ?_
   refine step (v := vi (a0.Switches.length : Int)) (bR (xs := a0.Switches) (e := (D.int .u16)) rfl) ?_
   refine q1 _ ?_
   exact nR []
  refine bd (t := decide (i1 < (a0.Switches.length : Int))) rfl hc5 ?_
  refine bg (s0 := ⟨tab [], ae [], 0⟩) (nr []) ?_
  refine ce ?_
  exact And.intro rfl rfl
 ·
  intro r' hq
  subst hq
  exact aC h
 rintro ⟨⟩ rfl
 refine ak ⟨tab [(4, vi (-1))], ae [], 0⟩ ?_ ?_
 ·
  refine q1 _ ?_
  exact nR []
 have hh := aC h
 subst hh
 refine bA ?_
 show FQ _ _ _ _
 exact bZ (.inr rfl) (bh (v := vi (-1)) rfl rfl) (RV.d trivial)
theorem uR {a0 : api_Topo} {r : (List api_Port)} (h : jm a0 = some r) : PCall Try.prog 55 [eapi_Topo a0] (eL (some 2) eapi_Port r) := by
 refine PCall.introN tN (show 1 ≤ 31 by decide) ?_
 refine bg (s0 := ⟨tab [(0, vs1 a0)], ae [], 0⟩) (nr []) ?_
 refine ak ⟨tab [(1, ap a0)], ae [], 0⟩ ?_ ?_
 ·
  iterate 2 refine q1 _ ?_
  exact nR []
 refine ak ⟨tab [(1, ap a0), (3, .d (.nils))], ae [], 0⟩ ?_ ?_
 ·
  refine q1 _ ?_
  exact nR []
 refine aH ?_
 refine ak ⟨tab [(1, ap a0), (3, .d (.nils)), (4, vi 0)], ae [], 0⟩ ?_ ?_
 ·
  refine q1 _ ?_
  exact nR []
 obtain ⟨z10, hl, h⟩ := aB h
 refine bg (s0 := ⟨tab [(1, ap a0), (3, .loc 0 0 (([] : List api_Port).length)), (4, vi 0)], ae [(0, .lst false (some 2) (List.map eapi_Port ([] : List api_Port)))], 1⟩) (bn.trans (s2 := ⟨tab [(1, ap a0), (3, .loc 0 0 (([] : List api_Port).length)), (4, vi 0)], ae [(0, .lst false (some 2) (List.map eapi_Port ([] : List api_Port)))], 1⟩) (ov 3 false (some 2) rfl) (nr [0])) ?_
 refine br ?_
 refine e7 (cC (a0.Links.length : Int)) (fun (i2 : Int) (qq : (List api_Port)) => ⟨tab [(1, ap a0), (3, .loc 0 0 qq.length), (4, vi i2)], ae [(0, .lst false (some 2) (List.map eapi_Port qq))], 1⟩) 0 (fun (qq : (List api_Port)) => ⟨tab [(1, ap a0), (3, .loc 0 0 qq.length)], ae [(0, .lst false (some 2) (List.map eapi_Port qq))], 1⟩) bu cD hl (by unfold bu; omega) ?_ ?_ ?_
 ·
  rintro i2 l1 xr7 hinv5 hgo4 h
  show aG _ _ _ _ _ ⟨tab [(1, ap a0), (3, .loc 0 0 l1.length), (4, vi i2)], ae [(0, .lst false (some 2) (List.map eapi_Port l1))], 1⟩
  have hc6 : decide (i2 < (a0.Links.length : Int)) = true := decide_eq_true hgo4
  refine aH ?_
  refine ak ⟨tab [(1, ap a0), (3, .loc 0 0 l1.length), (4, vi i2), (8, vi (a0.Links.length : Int)), (9, vb (decide (i2 < (a0.Links.length : Int))))], ae [(0, .lst false (some 2) (List.map eapi_Port l1))], 1⟩ ?_ ?_
  ·
   iterate 3 refine q1 _ ?_
   refine step (v := vi (a0.Links.length : Int)) (bR (xs := a0.Links) (e := (bF eapi_Port)) rfl) ?_
   refine q1 _ ?_
   exact nR [0]
  refine cB 8 rfl fun hB3 => ?_
  refine bb (t := decide (i2 < (a0.Links.length : Int))) rfl hc6 ?_
  refine bf ?_
  refine aH ?_
  refine br ?_
  obtain ⟨x8, hx8, h⟩ := aB h
  obtain ⟨l9, hl9, h⟩ := aB h
  refine o6 ⟨tab [(1, ap a0), (3, .loc 0 0 l9.length), (4, vi i2)], ae [(0, .lst false (some 2) (List.map eapi_Port l9))], 1⟩ ?_ ?_
  ·
   refine cd [] [] (v := .loc 0 0 l1.length) rfl rfl rfl ?_
   refine cd [] [] (v := .d (.cptr (some 3) (eapi_Topo a0) 1)) rfl rfl rfl ?_
   refine cd [] [] (v := bC a0.Links) rfl rfl rfl ?_
   refine cd [] [] (v := vi i2) rfl rfl rfl ?_
   refine cd [] [] (v := .d (.cptr (some 4) (bF eapi_Port x8) 0)) (bX (xs := a0.Links) (e := (bF eapi_Port)) hx8 rfl rfl) rfl rfl ?_
   refine cd [] [] (v := .d (.cptr (some 4) (bF eapi_Port x8) 0)) rfl rfl rfl ?_
   refine cd [] [] (v := vs2 x8.a0) rfl rfl rfl ?_
   refine cd [] [] (v := .d (.cptr (some 3) (eapi_Topo a0) 1)) rfl rfl rfl ?_
   refine cd [] [] (v := bC a0.Links) rfl rfl rfl ?_
   refine cd [] [] (v := vi i2) rfl rfl rfl ?_
   refine cd [] [] (v := .d (.cptr (some 4) (bF eapi_Port x8) 0)) (bX (xs := a0.Links) (e := (bF eapi_Port)) hx8 rfl rfl) rfl rfl ?_
   refine cd [] [] (v := .d (.cptr (some 4) (bF eapi_Port x8) 2)) rfl rfl rfl ?_
   refine cd [] [] (v := vs2 x8.a1) rfl rfl rfl ?_
   refine cd [] [] (v := bU ([x8.a0, x8.a1] : List api_Port)) rfl rfl rfl ?_
   refine cd [0] [0] (v := .loc 1 0 l9.length) (σ' := (ah (ah (ae [(0, .lst false (some 2) (List.map eapi_Port l1))]) 0 none) 1 (some (.lst false (some 2) (List.map eapi_Port l9))))) (n' := 2) (iS (xs := l1) (ys := ([x8.a0, x8.a1] : List api_Port)) (e := eapi_Port) hl9 rfl rfl rfl (iR (xs := ([x8.a0, x8.a1] : List api_Port)) (e := eapi_Port) rfl)) rfl rfl ?_
   refine cd [] [] (v := .loc 1 0 l9.length) rfl rfl rfl ?_
   exact cb.nil' ⟨by decide, nr [1]⟩
  have hh := aC h
  subst hh
  refine bO ⟨tab [(1, ap a0), (3, .loc 0 0 l9.length), (4, vi (i2 + 1))], ae [(0, .lst false (some 2) (List.map eapi_Port l9))], 1⟩ ?_ ?_
  ·
   refine q1 _ ?_
   refine step (v := vi (i2 + 1)) (cx (cz hinv5 hgo4 hB3) rfl rfl) ?_
   refine q1 _ ?_
   exact nR [0]
  exact And.intro rfl rfl
 ·
  rintro i2 l1 hinv5 hgo4
  show aG _ _ _ _ _ ⟨tab [(1, ap a0), (3, .loc 0 0 l1.length), (4, vi i2)], ae [(0, .lst false (some 2) (List.map eapi_Port l1))], 1⟩
  have hc6 : ¬ (decide (i2 < (a0.Links.length : Int)) = true) := fun hq => hgo4 (of_decide_eq_true hq)
  refine aH ?_
  refine ak ⟨tab [(1, ap a0), (3, .loc 0 0 l1.length), (4, vi i2), (9, vb (decide (i2 < (a0.Links.length : Int))))], ae [(0, .lst false (some 2) (List.map eapi_Port l1))], 1⟩ ?_ ?_
  ·
   iterate 3 refine q1 _ ?_
   refine step (v := vi (a0.Links.length : Int)) (bR (xs := a0.Links) (e := (bF eapi_Port)) rfl) ?_
   refine q1 _ ?_
   exact nR [0]
  refine bd (t := decide (i2 < (a0.Links.length : Int))) rfl hc6 ?_
  refine bg (s0 := ⟨tab [(1, ap a0), (3, .loc 0 0 l1.length)], ae [(0, .lst false (some 2) (List.map eapi_Port l1))], 1⟩) (nr [0]) ?_
  refine ce ?_
  exact And.intro rfl rfl
 obtain ⟨l11, hl11, h⟩ := aB h
 refine ak ⟨tab [(2, .loc 0 0 l11.length)], ae [(0, .lst false (some 2) (List.map eapi_Port l11))], 1⟩ ?_ ?_
 ·
  iterate 3 refine q1 _ ?_
  refine step (v := .loc 1 0 l11.length) (σ' := (ah (ah (ae [(0, .lst false (some 2) (List.map eapi_Port z10))]) 0 none) 1 (some (.lst false (some 2) (List.map eapi_Port l11))))) (n' := 2) (iS (xs := z10) (ys := a0.Hosts) (e := eapi_Port) hl11 rfl rfl rfl (iR (xs := a0.Hosts) (e := eapi_Port) rfl)) ?_
  refine q1 _ ?_
  exact nR [1]
 have hh := aC h
 subst hh
 refine bA ?_
 show FQ _ _ _ _
 exact bZ (.inr rfl) (bh (v := .loc 0 0 l11.length) rfl rfl) (RV.loc (xs := l11) (e := eapi_Port) rfl rfl trivial)
theorem uS {a0 : api_Topo} {r : Int} (h : jn a0 = some r) : PCall Try.prog 22 [eapi_Topo a0] (.int .i64 r) := by
 refine PCall.introN tT (show 1 ≤ 76 by decide) ?_
 refine bg (s0 := ⟨tab [(0, vs1 a0)], ae [], 0⟩) (nr []) ?_
 refine ak ⟨tab [(1, ap a0)], ae [], 0⟩ ?_ ?_
 ·
  iterate 2 refine q1 _ ?_
  exact nR []
 refine aH ?_
 refine ak ⟨tab [(1, ap a0), (23, vb ((decide ((a0.Switches.length : Int) > 12)) || ((decide ((a0.Links.length : Int) > 24)) || (decide ((a0.Hosts.length : Int) > 24)))))], ae [], 0⟩ ?_ ?_
 ·
  iterate 2 refine q1 _ ?_
  refine step (v := vi (a0.Switches.length : Int)) (bR (xs := a0.Switches) (e := (D.int .u16)) rfl) ?_
  iterate 2 refine q1 _ ?_
  by_cases hg1 : decide ((a0.Switches.length : Int) > 12) = true
  ·
   iterate 4 refine qX (decide ((a0.Switches.length : Int) > 12)) (by rw [hg1]; decide) ?_
   refine step (v := vb true) (ba (b := decide ((a0.Switches.length : Int) > 12)) rfl hg1 rfl) ?_
   refine q1 _ ?_
   iterate 4 refine qX true (by decide) ?_
   refine step (v := vb true) (ba (b := true) rfl rfl rfl) ?_
   exact aI.nil' (nm [] ⟨.d _, .eq (by first | (simp [hg1]; done) | (simp_all; done) | grind), trivial⟩ trivial)
  ·
   refine qG (decide ((a0.Switches.length : Int) > 12)) (Bool.eq_false_iff.2 hg1) ?_
   refine q1 _ ?_
   refine qG (decide ((a0.Switches.length : Int) > 12)) (Bool.eq_false_iff.2 hg1) ?_
   refine q1 _ ?_
   refine qG (decide ((a0.Switches.length : Int) > 12)) (Bool.eq_false_iff.2 hg1) ?_
   refine step (v := vi (a0.Links.length : Int)) (bR (xs := a0.Links) (e := (bF eapi_Port)) rfl) ?_
   refine qG (decide ((a0.Switches.length : Int) > 12)) (Bool.eq_false_iff.2 hg1) ?_
   refine q1 _ ?_
   refine step (v := vb (decide ((a0.Links.length : Int) > 24))) (bk (b := decide ((a0.Switches.length : Int) > 12)) rfl hg1 rfl) ?_
   refine q1 _ ?_
   by_cases hg2 : decide ((a0.Links.length : Int) > 24) = true
   ·
    iterate 4 refine qX (decide ((a0.Links.length : Int) > 24)) (by rw [hg2]; decide) ?_
    refine step (v := vb true) (ba (b := decide ((a0.Links.length : Int) > 24)) rfl hg2 rfl) ?_
    exact aI.nil' (nm [] ⟨.d _, .eq (by first | (simp [hg1, hg2]; done) | (simp_all; done) | grind), trivial⟩ trivial)
   ·
    refine qG (decide ((a0.Links.length : Int) > 24)) (Bool.eq_false_iff.2 hg2) ?_
    refine q1 _ ?_
    refine qG (decide ((a0.Links.length : Int) > 24)) (Bool.eq_false_iff.2 hg2) ?_
    refine q1 _ ?_
    refine qG (decide ((a0.Links.length : Int) > 24)) (Bool.eq_false_iff.2 hg2) ?_
    refine step (v := vi (a0.Hosts.length : Int)) (bR (xs := a0.Hosts) (e := eapi_Port) rfl) ?_
    refine qG (decide ((a0.Links.length : Int) > 24)) (Bool.eq_false_iff.2 hg2) ?_
    refine q1 _ ?_
    refine step (v := vb (decide ((a0.Hosts.length : Int) > 24))) (bk (b := decide ((a0.Links.length : Int) > 24)) rfl hg2 rfl) ?_
    exact aI.nil' (nm [] ⟨.d _, .eq (by first | (simp [hg1, hg2]; done) | (simp_all; done) | grind), trivial⟩ trivial)
 by_cases hc3 : ((decide ((a0.Switches.length : Int) > 12)) || ((decide ((a0.Links.length : Int) > 24)) || (decide ((a0.Hosts.length : Int) > 24)))) = true
 ·
  replace h := bo hc3 h
  refine bb (t := ((decide ((a0.Switches.length : Int) > 12)) || ((decide ((a0.Links.length : Int) > 24)) || (decide ((a0.Hosts.length : Int) > 24))))) rfl hc3 ?_
  refine ak ⟨tab [(2, vi 2)], ae [], 0⟩ ?_ ?_
  ·
   refine q1 _ ?_
   exact nR []
  have hh := aC h
  subst hh
  refine bA ?_
  show FQ _ _ _ _
  exact bZ (.inr rfl) (bh (v := vi 2) rfl rfl) (RV.d trivial)
 ·
  replace h := bp hc3 h
  refine bd (t := ((decide ((a0.Switches.length : Int) > 12)) || ((decide ((a0.Links.length : Int) > 24)) || (decide ((a0.Hosts.length : Int) > 24))))) rfl hc3 ?_
  refine bf ?_
  refine aH ?_
  refine ak ⟨tab [(1, ap a0), (3, vi 0)], ae [], 0⟩ ?_ ?_
  ·
   refine q1 _ ?_
   exact nR []
  obtain ⟨q41, hl, h⟩ := aB h
  refine br ?_
  refine eC (cC (a0.Switches.length : Int)) (fun (i4 : Int) (qq : Unit) => ⟨tab [(1, ap a0), (3, vi i4)], ae [], 0⟩) 0 (fun (qq : Unit) => ⟨tab [(1, ap a0)], ae [], 0⟩) bu cD (r := r) hl (by unfold bu; omega) ?_ ?_ ?_ ?_
  ·
   rintro i4 ⟨⟩ xr9 hinv7 hgo6 h
   show aG _ _ _ _ _ ⟨tab [(1, ap a0), (3, vi i4)], ae [], 0⟩
   have hc8 : decide (i4 < (a0.Switches.length : Int)) = true := decide_eq_true hgo6
   refine aH ?_
   refine ak ⟨tab [(1, ap a0), (3, vi i4), (27, vi (a0.Switches.length : Int)), (28, vb (decide (i4 < (a0.Switches.length : Int))))], ae [], 0⟩ ?_ ?_
   ·
    iterate 3 refine q1 _ ?_
    refine step (v := vi (a0.Switches.length : Int)) (bR (xs := a0.Switches) (e := (D.int .u16)) rfl) ?_
    refine q1 _ ?_
    exact nR []
   refine cB 27 rfl fun hB5 => ?_
   refine bb (t := decide (i4 < (a0.Switches.length : Int))) rfl hc8 ?_
   refine bf ?_
   refine aH ?_
   refine br ?_
   obtain ⟨x10, hx10, h⟩ := aB h
   obtain ⟨r11, hr11, h⟩ := aB h
   refine ak ⟨tab [(1, ap a0), (3, vi i4), (39, vb (r11 != i4))], ae [], 0⟩ ?_ ?_
   ·
    iterate 4 refine q1 _ ?_
    refine step (v := .d (.cptr none (.int .u16 x10) 0)) (bX (xs := a0.Switches) (e := (D.int .u16)) hx10 rfl rfl) ?_
    refine q1 _ ?_
    refine bI (r := .int .i64 r11) (aK (aK a8.nil')) (ka hr11) ?_
    iterate 2 refine q1 _ ?_
    exact nR []
   by_cases hc12 : (r11 != i4) = true
   ·
    replace h := bo hc12 h
    refine bb (t := (r11 != i4)) rfl hc12 ?_
    refine ak ⟨tab [(2, vi 12)], ae [], 0⟩ ?_ ?_
    ·
     refine q1 _ ?_
     exact nR []
    obtain ⟨r13, kr13, hr⟩ := dO (o := some 12) (g := Br.ret) h
    subst hr
    have h := kr13
    have hh := aC h
    subst hh
    refine bA ?_
    refine And.intro (fun hn => nomatch hn) ?_
    intro hq
    have hq := hq.symm
    subst hq
    show FQ _ _ _ _
    exact bZ (.inr rfl) (bh (v := vi 12) rfl rfl) (RV.d trivial)
   ·
    replace h := bp hc12 h
    refine bd (t := (r11 != i4)) rfl hc12 ?_
    refine bf ?_
    have hh := aC h
    subst hh
    refine bO ⟨tab [(1, ap a0), (3, vi (i4 + 1))], ae [], 0⟩ ?_ ?_
    ·
     refine q1 _ ?_
     refine step (v := vi (i4 + 1)) (cx (cz hinv7 hgo6 hB5) rfl rfl) ?_
     refine q1 _ ?_
     exact nR []
    exact And.intro rfl rfl
  ·
   rintro i4 ⟨⟩ hinv7 hgo6
   show aG _ _ _ _ _ ⟨tab [(1, ap a0), (3, vi i4)], ae [], 0⟩
   have hc8 : ¬ (decide (i4 < (a0.Switches.length : Int)) = true) := fun hq => hgo6 (of_decide_eq_true hq)
   refine aH ?_
   refine ak ⟨tab [(1, ap a0), (3, vi i4), (28, vb (decide (i4 < (a0.Switches.length : Int))))], ae [], 0⟩ ?_ ?_
   ·
    iterate 3 refine q1 _ ?_
    refine step (v := vi (a0.Switches.length : Int)) (bR (xs := a0.Switches) (e := (D.int .u16)) rfl) ?_
    refine q1 _ ?_
    exact nR []
   refine bd (t := decide (i4 < (a0.Switches.length : Int))) rfl hc8 ?_
   refine bg (s0 := ⟨tab [(1, ap a0)], ae [], 0⟩) (nr []) ?_
   refine ce ?_
   exact And.intro rfl rfl
  ·
   intro r' hq
   subst hq
   exact aC h
  rintro ⟨⟩ rfl
  obtain ⟨r13, hr13, h⟩ := aB h
  refine ak ⟨tab [(1, ap a0), (4, bU r13)], ae [], 0⟩ ?_ ?_
  ·
   refine q1 _ ?_
   refine bI (r := eL (some 2) eapi_Port r13) (aK a8.nil') (uR hr13) ?_
   refine q1 _ ?_
   exact nR []
  refine aH ?_
  refine ak ⟨tab [(1, ap a0), (4, bU r13), (5, vi 0)], ae [], 0⟩ ?_ ?_
  ·
   refine q1 _ ?_
   exact nR []
  obtain ⟨q40, hl, h⟩ := aB h
  refine br ?_
  refine eC (cC (r13.length : Int)) (fun (i14 : Int) (qq : Unit) => ⟨tab [(1, ap a0), (4, bU r13), (5, vi i14)], ae [], 0⟩) 2 (fun (qq : Unit) => ⟨tab [(4, bU r13)], ae [], 0⟩) bu cD (r := r) hl (by unfold bu; omega) ?_ ?_ ?_ ?_
  ·
   rintro i14 ⟨⟩ xr19 hinv17 hgo16 h
   show aG _ _ _ _ _ ⟨tab [(1, ap a0), (4, bU r13), (5, vi i14)], ae [], 0⟩
   have hc18 : decide (i14 < (r13.length : Int)) = true := decide_eq_true hgo16
   refine aH ?_
   refine ak ⟨tab [(1, ap a0), (4, bU r13), (5, vi i14), (44, vi (r13.length : Int)), (45, vb (decide (i14 < (r13.length : Int))))], ae [], 0⟩ ?_ ?_
   ·
    iterate 2 refine q1 _ ?_
    refine step (v := vi (r13.length : Int)) (bR (xs := r13) (e := eapi_Port) rfl) ?_
    refine q1 _ ?_
    exact nR []
   refine cB 44 rfl fun hB15 => ?_
   refine bb (t := decide (i14 < (r13.length : Int))) rfl hc18 ?_
   refine bf ?_
   refine aH ?_
   refine br ?_
   obtain ⟨x20, hx20, h⟩ := aB h
   obtain ⟨r21, hr21, h⟩ := aB h
   refine ak ⟨tab [(1, ap a0), (4, bU r13), (5, vi i14), (55, vb (decide (r21 < 0)))], ae [], 0⟩ ?_ ?_
   ·
    iterate 3 refine q1 _ ?_
    refine step (v := eb x20) (bX (xs := r13) (e := eapi_Port) hx20 rfl rfl) ?_
    iterate 2 refine q1 _ ?_
    refine bI (r := .int .i64 r21) (aK (aK a8.nil')) (ka hr21) ?_
    refine q1 _ ?_
    exact nR []
   by_cases hc22 : decide (r21 < 0) = true
   ·
    replace h := bo hc22 h
    refine bb (t := decide (r21 < 0)) rfl hc22 ?_
    refine ak ⟨tab [(2, vi 12)], ae [], 0⟩ ?_ ?_
    ·
     refine q1 _ ?_
     exact nR []
    obtain ⟨r23, kr23, hr⟩ := dO (o := some 12) (g := Br.ret) h
    subst hr
    have h := kr23
    have hh := aC h
    subst hh
    refine bA ?_
    refine And.intro (fun hn => nomatch hn) ?_
    intro hq
    have hq := hq.symm
    subst hq
    show FQ _ _ _ _
    exact bZ (.inr rfl) (bh (v := vi 12) rfl rfl) (RV.d trivial)
   ·
    replace h := bp hc22 h
    refine bd (t := decide (r21 < 0)) rfl hc22 ?_
    refine bf ?_
    have hh := aC h
    subst hh
    refine bO ⟨tab [(1, ap a0), (4, bU r13), (5, vi (i14 + 1))], ae [], 0⟩ ?_ ?_
    ·
     refine q1 _ ?_
     refine step (v := vi (i14 + 1)) (cx (cz hinv17 hgo16 hB15) rfl rfl) ?_
     refine q1 _ ?_
     exact nR []
    exact And.intro rfl rfl
  ·
   rintro i14 ⟨⟩ hinv17 hgo16
   show aG _ _ _ _ _ ⟨tab [(1, ap a0), (4, bU r13), (5, vi i14)], ae [], 0⟩
   have hc18 : ¬ (decide (i14 < (r13.length : Int)) = true) := fun hq => hgo16 (of_decide_eq_true hq)
   refine aH ?_
   refine ak ⟨tab [(1, ap a0), (4, bU r13), (5, vi i14), (45, vb (decide (i14 < (r13.length : Int))))], ae [], 0⟩ ?_ ?_
   ·
    iterate 2 refine q1 _ ?_
    refine step (v := vi (r13.length : Int)) (bR (xs := r13) (e := eapi_Port) rfl) ?_
    refine q1 _ ?_
    exact nR []
   refine bd (t := decide (i14 < (r13.length : Int))) rfl hc18 ?_
   refine bg (s0 := ⟨tab [(4, bU r13)], ae [], 0⟩) (nr []) ?_
   refine ce ?_
   exact And.intro rfl rfl
  ·
   intro r' hq
   subst hq
   exact aC h
  rintro ⟨⟩ rfl
  refine aH ?_
  refine ak ⟨tab [(4, bU r13), (6, vi 0)], ae [], 0⟩ ?_ ?_
  ·
   refine q1 _ ?_
   exact nR []
  obtain ⟨q39, hl, h⟩ := aB h
  refine br ?_
  refine eC (cC (r13.length : Int)) (fun (i23 : Int) (qq : Unit) => ⟨tab [(4, bU r13), (6, vi i23)], ae [], 0⟩) 4 (fun (qq : Unit) => ⟨tab [], ae [], 0⟩) bu cD (r := r) hl (by unfold bu; omega) ?_ ?_ ?_ ?_
  ·
   rintro i23 ⟨⟩ xr28 hinv26 hgo25 h
   show aG _ _ _ _ _ ⟨tab [(4, bU r13), (6, vi i23)], ae [], 0⟩
   have hc27 : decide (i23 < (r13.length : Int)) = true := decide_eq_true hgo25
   refine aH ?_
   refine ak ⟨tab [(4, bU r13), (6, vi i23), (58, vi (r13.length : Int)), (59, vb (decide (i23 < (r13.length : Int))))], ae [], 0⟩ ?_ ?_
   ·
    iterate 2 refine q1 _ ?_
    refine step (v := vi (r13.length : Int)) (bR (xs := r13) (e := eapi_Port) rfl) ?_
    refine q1 _ ?_
    exact nR []
   refine cB 58 rfl fun hB24 => ?_
   refine bb (t := decide (i23 < (r13.length : Int))) rfl hc27 ?_
   refine bf ?_
   refine aH ?_
   refine br ?_
   refine ak ⟨tab [(4, bU r13), (6, vi i23), (7, vi 0)], ae [], 0⟩ ?_ ?_
   ·
    refine q1 _ ?_
    exact nR []
   obtain ⟨q38, hl, h⟩ := aB h
   refine br ?_
   refine eC (cC i23) (fun (i29 : Int) (qq : Unit) => ⟨tab [(4, bU r13), (6, vi i23), (7, vi i29)], ae [], 0⟩) 6 (fun (qq : Unit) => ⟨tab [(4, bU r13), (6, vi i23)], ae [], 0⟩) bu cD (r := xr28) hl (by unfold bu; omega) ?_ ?_ ?_ ?_
   ·
    rintro i29 ⟨⟩ xr34 hinv32 hgo31 h
    show aG _ _ _ _ _ ⟨tab [(4, bU r13), (6, vi i23), (7, vi i29)], ae [], 0⟩
    have hc33 : decide (i29 < i23) = true := decide_eq_true hgo31
    refine aH ?_
    refine ak ⟨tab [(4, bU r13), (6, vi i23), (7, vi i29), (63, vi i23), (64, vb (decide (i29 < i23)))], ae [], 0⟩ ?_ ?_
    ·
     iterate 3 refine q1 _ ?_
     exact nR []
    refine cB 63 rfl fun hB30 => ?_
    refine bb (t := decide (i29 < i23)) rfl hc33 ?_
    refine bf ?_
    refine aH ?_
    refine br ?_
    obtain ⟨x35, hx35, h⟩ := aB h
    obtain ⟨x36, hx36, h⟩ := aB h
    refine ak ⟨tab [(4, bU r13), (6, vi i23), (7, vi i29), (75, vb (x35 == x36))], ae [], 0⟩ ?_ ?_
    ·
     iterate 2 refine q1 _ ?_
     refine step (v := eb x35) (bX (xs := r13) (e := eapi_Port) hx35 rfl rfl) ?_
     iterate 3 refine q1 _ ?_
     refine step (v := eb x36) (bX (xs := r13) (e := eapi_Port) hx36 rfl rfl) ?_
     refine q1 _ ?_
     refine step (v := vb (x35 == x36)) (ls (neg := false) rfl rfl (lZ x35 x36)) ?_
     exact nR []
    by_cases hc37 : (x35 == x36) = true
    ·
     replace h := bo hc37 h
     refine bb (t := (x35 == x36)) rfl hc37 ?_
     refine ak ⟨tab [(2, vi 11)], ae [], 0⟩ ?_ ?_
     ·
      refine q1 _ ?_
      exact nR []
     obtain ⟨r38, kr38, hr⟩ := dO (o := some (Br.ret 11)) (g := Br.ret) h
     subst hr
     have h := kr38
     obtain ⟨r39, kr39, hr⟩ := dO (o := some 11) (g := Br.ret) h
     subst hr
     have h := kr39
     have hh := aC h
     subst hh
     refine bA ?_
     refine And.intro (fun hn => nomatch hn) ?_
     intro hq
     have hq := hq.symm
     subst hq
     refine And.intro (fun hn => nomatch hn) ?_
     intro hq
     have hq := hq.symm
     subst hq
     show FQ _ _ _ _
     exact bZ (.inr rfl) (bh (v := vi 11) rfl rfl) (RV.d trivial)
    ·
     replace h := bp hc37 h
     refine bd (t := (x35 == x36)) rfl hc37 ?_
     refine bf ?_
     have hh := aC h
     subst hh
     refine bO ⟨tab [(4, bU r13), (6, vi i23), (7, vi (i29 + 1))], ae [], 0⟩ ?_ ?_
     ·
      refine q1 _ ?_
      refine step (v := vi (i29 + 1)) (cx (cz hinv32 hgo31 hB30) rfl rfl) ?_
      refine q1 _ ?_
      exact nR []
     exact And.intro rfl rfl
   ·
    rintro i29 ⟨⟩ hinv32 hgo31
    show aG _ _ _ _ _ ⟨tab [(4, bU r13), (6, vi i23), (7, vi i29)], ae [], 0⟩
    have hc33 : ¬ (decide (i29 < i23) = true) := fun hq => hgo31 (of_decide_eq_true hq)
    refine aH ?_
    refine ak ⟨tab [(4, bU r13), (6, vi i23), (7, vi i29), (64, vb (decide (i29 < i23)))], ae [], 0⟩ ?_ ?_
    ·
     iterate 3 refine q1 _ ?_
     exact nR []
    refine bd (t := decide (i29 < i23)) rfl hc33 ?_
    refine bg (s0 := ⟨tab [(4, bU r13), (6, vi i23)], ae [], 0⟩) (nr []) ?_
    refine ce ?_
    exact And.intro rfl rfl
   ·
    intro r' hq
    subst hq
    exact aC h
   rintro ⟨⟩ rfl
   have hh := aC h
   subst hh
   refine bO ⟨tab [(4, bU r13), (6, vi (i23 + 1))], ae [], 0⟩ ?_ ?_
   ·
    refine q1 _ ?_
    refine step (v := vi (i23 + 1)) (cx (cz hinv26 hgo25 hB24) rfl rfl) ?_
    refine q1 _ ?_
    exact nR []
   exact And.intro rfl rfl
  ·
   rintro i23 ⟨⟩ hinv26 hgo25
   show aG _ _ _ _ _ ⟨tab [(4, bU r13), (6, vi i23)], ae [], 0⟩
   have hc27 : ¬ (decide (i23 < (r13.length : Int)) = true) := fun hq => hgo25 (of_decide_eq_true hq)
   refine aH ?_
   refine ak ⟨tab [(4, bU r13), (6, vi i23), (59, vb (decide (i23 < (r13.length : Int))))], ae [], 0⟩ ?_ ?_
   ·
    iterate 2 refine q1 _ ?_
    refine step (v := vi (r13.length : Int)) (bR (xs := r13) (e := eapi_Port) rfl) ?_
    refine q1 _ ?_
    exact nR []
   refine bd (t := decide (i23 < (r13.length : Int))) rfl hc27 ?_
   refine bg (s0 := ⟨tab [], ae [], 0⟩) (nr []) ?_
   refine ce ?_
   exact And.intro rfl rfl
  ·
   intro r' hq
   subst hq
   exact aC h
  rintro ⟨⟩ rfl
  refine ak ⟨tab [(2, vi 0)], ae [], 0⟩ ?_ ?_
  ·
   refine q1 _ ?_
   exact nR []
  have hh := aC h
  subst hh
  refine bA ?_
  show FQ _ _ _ _
  exact bZ (.inr rfl) (bh (v := vi 0) rfl rfl) (RV.d trivial)
theorem uT {a0 : api_Topo} {a1 : Int} {r : (Int × Int)} (h : jo a0 a1 = some r) : PCall Try.prog 34 [eapi_Topo a0, .int .i64 a1] (.tup [.int .i64 r.1, .int .i64 r.2]) := by
 refine PCall.introN tV (show 2 ≤ 24 by decide) ?_
 refine bg (s0 := ⟨tab [(0, vs1 a0), (1, vi a1)], ae [], 0⟩) (nr []) ?_
 refine ak ⟨tab [(1, vi a1), (2, ap a0)], ae [], 0⟩ ?_ ?_
 ·
  iterate 3 refine q1 _ ?_
  exact nR []
 obtain ⟨x1, hx1, h⟩ := aB h
 obtain ⟨r2, hr2, h⟩ := aB h
 obtain ⟨r3, hr3, h⟩ := aB h
 refine ak ⟨tab [(4, vi r2), (5, vi r3)], ae [], 0⟩ ?_ ?_
 ·
  iterate 4 refine q1 _ ?_
  refine step (v := .d (.cptr (some 4) (bF eapi_Port x1) 0)) (bX (xs := a0.Links) (e := (bF eapi_Port)) hx1 rfl rfl) ?_
  iterate 3 refine q1 _ ?_
  refine bI (r := .int .i64 r2) (aK (aK a8.nil')) (ka hr2) ?_
  iterate 4 refine q1 _ ?_
  refine step (v := .d (.cptr (some 4) (bF eapi_Port x1) 0)) (bX (xs := a0.Links) (e := (bF eapi_Port)) hx1 rfl rfl) ?_
  iterate 3 refine q1 _ ?_
  refine bI (r := .int .i64 r3) (aK (aK a8.nil')) (ka hr3) ?_
  iterate 2 refine q1 _ ?_
  exact nR []
 have hh := aC h
 subst hh
 refine bA ?_
 show FQ _ _ _ _
 exact dQ (.inr rfl) (bh (v := vi r2) rfl (bh (v := vi r3) rfl rfl)) (RV.d (RV.d trivial))
theorem mc {a0 : api_Topo} {a1 : Int} {a2 : Int} {a3 : Int} {r : Bool} (h : gJ a0 a1 a2 a3 = some r) : PCall Try.prog 29 [eapi_Topo a0, .int .i64 a1, .int .i64 a2, .int .i64 a3] (.bool r) := by
 refine PCall.introN tY (show 4 ≤ 53 by decide) ?_
 refine bg (s0 := ⟨tab [(0, vs1 a0), (1, vi a1), (2, vi a2), (3, vi a3)], ae [], 0⟩) (nr []) ?_
 refine ak ⟨tab [(1, vi a1), (2, vi a2), (3, vi a3), (4, ap a0)], ae [], 0⟩ ?_ ?_
 ·
  iterate 2 refine q1 _ ?_
  exact nR []
 refine aH ?_
 refine ak ⟨tab [(1, vi a1), (2, vi a2), (3, vi a3), (4, ap a0), (9, vi 0)], ae [], 0⟩ ?_ ?_
 ·
  refine q1 _ ?_
  exact nR []
 obtain ⟨q15, hl, h⟩ := aB h
 refine br ?_
 refine eC (cC (a0.Links.length : Int)) (fun (i1 : Int) (qq : Unit) => ⟨tab [(1, vi a1), (2, vi a2), (3, vi a3), (4, ap a0), (9, vi i1)], ae [], 0⟩) 0 (fun (qq : Unit) => ⟨tab [], ae [], 0⟩) bu cD (r := r) hl (by unfold bu; omega) ?_ ?_ ?_ ?_
 ·
  rintro i1 ⟨⟩ xr6 hinv4 hgo3 h
  show aG _ _ _ _ _ ⟨tab [(1, vi a1), (2, vi a2), (3, vi a3), (4, ap a0), (9, vi i1)], ae [], 0⟩
  have hc5 : decide (i1 < (a0.Links.length : Int)) = true := decide_eq_true hgo3
  refine aH ?_
  refine ak ⟨tab [(1, vi a1), (2, vi a2), (3, vi a3), (4, ap a0), (9, vi i1), (15, vi (a0.Links.length : Int)), (16, vb (decide (i1 < (a0.Links.length : Int))))], ae [], 0⟩ ?_ ?_
  ·
   iterate 3 refine q1 _ ?_
   refine step (v := vi (a0.Links.length : Int)) (bR (xs := a0.Links) (e := (bF eapi_Port)) rfl) ?_
   refine q1 _ ?_
   exact nR []
  refine cB 15 rfl fun hB2 => ?_
  refine bb (t := decide (i1 < (a0.Links.length : Int))) rfl hc5 ?_
  refine bf ?_
  refine aH ?_
  refine br ?_
  obtain ⟨r7, hr7, h⟩ := aB h
  refine ak ⟨tab [(1, vi a1), (2, vi a2), (3, vi a3), (4, ap a0), (9, vi i1), (10, vi r7.1), (11, vi r7.2)], ae [], 0⟩ ?_ ?_
  ·
   iterate 2 refine q1 _ ?_
   refine bI (r := .tup [.int .i64 r7.1, .int .i64 r7.2]) (aK (aK a8.nil')) (uT hr7) ?_
   iterate 5 refine q1 _ ?_
   exact nR []
  refine ak ⟨tab [(1, vi a1), (2, vi a2), (3, vi a3), (4, ap a0), (9, vi i1), (52, vb ((i1 != a3) && ((a1 != a2) && (if (r7.1 == a1) then ((r7.2 == a2) || ((r7.1 == a2) && (r7.2 == a1))) else ((r7.1 == a2) && (r7.2 == a1))))))], ae [], 0⟩ ?_ ?_
  ·
   iterate 4 refine q1 _ ?_
   by_cases hg8 : (i1 != a3) = true
   ·
    refine qG _ hg8 ?_
    refine q1 _ ?_
    refine qG _ hg8 ?_
    refine q1 _ ?_
    refine qG _ hg8 ?_
    refine q1 _ ?_
    refine step (v := vb (a1 != a2)) (ba (b := (i1 != a3)) rfl hg8 rfl) ?_
    refine q1 _ ?_
    by_cases hg9 : (a1 != a2) = true
    ·
     refine qG _ hg9 ?_
     refine q1 _ ?_
     refine qG _ hg9 ?_
     refine q1 _ ?_
     refine qG _ hg9 ?_
     refine q1 _ ?_
     refine qG _ hg9 ?_
     refine q1 _ ?_
     by_cases hg10 : (r7.1 == a1) = true
     ·
      refine qG _ hg10 ?_
      refine q1 _ ?_
      refine qG _ hg10 ?_
      refine q1 _ ?_
      refine qG _ hg10 ?_
      refine q1 _ ?_
      refine qG _ hg9 ?_
      refine step (v := vb (r7.2 == a2)) (ba (b := (r7.1 == a1)) rfl hg10 rfl) ?_
      refine qG _ hg9 ?_
      refine q1 _ ?_
      by_cases hg11 : (r7.2 == a2) = true
      ·
       iterate 4 refine qX (r7.2 == a2) (by rw [hg11]; decide) ?_
       refine cw rfl ?_
       refine cw rfl ?_
       refine cw rfl ?_
       refine qX (r7.2 == a2) (by rw [hg11]; decide) ?_
       refine qG _ hg9 ?_
       refine step (v := vb true) (ba (b := (r7.2 == a2)) rfl hg11 rfl) ?_
       refine step (v := vb true) (ba (b := (a1 != a2)) rfl hg9 rfl) ?_
       exact aI.nil' (nm [] ⟨.d _, .d _, .d _, .d _, .d _, .eq (by first | (simp [hg8, hg9, hg10, hg11]; done) | (simp_all; done) | grind), trivial⟩ trivial)
      ·
       refine qG (r7.2 == a2) (Bool.eq_false_iff.2 hg11) ?_
       refine q1 _ ?_
       refine qG (r7.2 == a2) (Bool.eq_false_iff.2 hg11) ?_
       refine q1 _ ?_
       refine qG (r7.2 == a2) (Bool.eq_false_iff.2 hg11) ?_
       refine q1 _ ?_
       refine qG (r7.2 == a2) (Bool.eq_false_iff.2 hg11) ?_
       refine q1 _ ?_
       by_cases hg12 : (r7.1 == a2) = true
       ·
        refine qG _ hg12 ?_
        refine q1 _ ?_
        refine qG _ hg12 ?_
        refine q1 _ ?_
        refine qG _ hg12 ?_
        refine q1 _ ?_
        refine qG (r7.2 == a2) (Bool.eq_false_iff.2 hg11) ?_
        refine step (v := vb (r7.2 == a1)) (ba (b := (r7.1 == a2)) rfl hg12 rfl) ?_
        refine qG _ hg9 ?_
        refine step (v := vb (r7.2 == a1)) (bk (b := (r7.2 == a2)) rfl hg11 rfl) ?_
        refine step (v := vb (r7.2 == a1)) (ba (b := (a1 != a2)) rfl hg9 rfl) ?_
        exact aI.nil' (nm [] ⟨.d _, .d _, .d _, .d _, .d _, .eq (by first | (simp [hg8, hg9, hg10, hg11, hg12]; done) | (simp_all; done) | grind), trivial⟩ trivial)
       ·
        iterate 3 refine qX _ hg12 ?_
        refine qG (r7.2 == a2) (Bool.eq_false_iff.2 hg11) ?_
        refine step (v := vb false) (bk (b := (r7.1 == a2)) rfl hg12 rfl) ?_
        refine qG _ hg9 ?_
        refine step (v := vb false) (bk (b := (r7.2 == a2)) rfl hg11 rfl) ?_
        refine step (v := vb false) (ba (b := (a1 != a2)) rfl hg9 rfl) ?_
        exact aI.nil' (nm [] ⟨.d _, .d _, .d _, .d _, .d _, .eq (by first | (simp [hg8, hg9, hg10, hg11, hg12]; done) | (simp_all; done) | grind), trivial⟩ trivial)
     ·
      iterate 3 refine qX _ hg10 ?_
      refine qG _ hg9 ?_
      refine step (v := vb false) (bk (b := (r7.1 == a1)) rfl hg10 rfl) ?_
      refine qG _ hg9 ?_
      refine q1 _ ?_
      refine qG false rfl ?_
      refine q1 _ ?_
      refine qG false rfl ?_
      refine q1 _ ?_
      refine qG false rfl ?_
      refine q1 _ ?_
      refine qG false rfl ?_
      refine q1 _ ?_
      by_cases hg13 : (r7.1 == a2) = true
      ·
       refine qG _ hg13 ?_
       refine q1 _ ?_
       refine qG _ hg13 ?_
       refine q1 _ ?_
       refine qG _ hg13 ?_
       refine q1 _ ?_
       refine qG false rfl ?_
       refine step (v := vb (r7.2 == a1)) (ba (b := (r7.1 == a2)) rfl hg13 rfl) ?_
       refine qG _ hg9 ?_
       refine step (v := vb (r7.2 == a1)) (bk (b := false) rfl (by decide) rfl) ?_
       refine step (v := vb (r7.2 == a1)) (ba (b := (a1 != a2)) rfl hg9 rfl) ?_
       exact aI.nil' (nm [] ⟨.d _, .d _, .d _, .d _, .d _, .eq (by first | (simp [hg8, hg9, hg10, hg13]; done) | (simp_all; done) | grind), trivial⟩ trivial)
      ·
       iterate 3 refine qX _ hg13 ?_
       refine qG false rfl ?_
       refine step (v := vb false) (bk (b := (r7.1 == a2)) rfl hg13 rfl) ?_
       refine qG _ hg9 ?_
       refine step (v := vb false) (bk (b := false) rfl (by decide) rfl) ?_
       refine step (v := vb false) (ba (b := (a1 != a2)) rfl hg9 rfl) ?_
       exact aI.nil' (nm [] ⟨.d _, .d _, .d _, .d _, .d _, .eq (by first | (simp [hg8, hg9, hg10, hg13]; done) | (simp_all; done) | grind), trivial⟩ trivial)
    ·
     iterate 4 refine qX _ hg9 ?_
     refine cw rfl ?_
     refine cw rfl ?_
     refine cw rfl ?_
     iterate 2 refine qX _ hg9 ?_
     refine cw rfl ?_
     refine cw rfl ?_
     refine cw rfl ?_
     refine cw rfl ?_
     refine cw rfl ?_
     refine cw rfl ?_
     refine cw rfl ?_
     refine cw rfl ?_
     refine qX _ hg9 ?_
     refine step (v := vb false) (bk (b := (a1 != a2)) rfl hg9 rfl) ?_
     exact aI.nil' (nm [] ⟨.d _, .d _, .d _, .d _, .d _, .eq (by first | (simp [hg8, hg9]; done) | (simp_all; done) | grind), trivial⟩ trivial)
   ·
    iterate 3 refine qX _ hg8 ?_
    refine step (v := vb false) (bk (b := (i1 != a3)) rfl hg8 rfl) ?_
    refine q1 _ ?_
    iterate 4 refine qX false (by decide) ?_
    refine cw rfl ?_
    refine cw rfl ?_
    refine cw rfl ?_
    iterate 2 refine qX false (by decide) ?_
    refine cw rfl ?_
    refine cw rfl ?_
    refine cw rfl ?_
    refine cw rfl ?_
    refine cw rfl ?_
    refine cw rfl ?_
    refine cw rfl ?_
    refine cw rfl ?_
    refine qX false (by decide) ?_
    refine step (v := vb false) (bk (b := false) rfl (by decide) rfl) ?_
    exact aI.nil' (nm [] ⟨.d _, .d _, .d _, .d _, .d _, .eq (by first | (simp [hg8]; done) | (simp_all; done) | grind), trivial⟩ trivial)
  by_cases hc14 : ((i1 != a3) && ((a1 != a2) && (if (r7.1 == a1) then ((r7.2 == a2) || ((r7.1 == a2) && (r7.2 == a1))) else ((r7.1 == a2) && (r7.2 == a1))))) = true
  ·
   replace h := bo hc14 h
   refine bb (t := ((i1 != a3) && ((a1 != a2) && (if (r7.1 == a1) then ((r7.2 == a2) || ((r7.1 == a2) && (r7.2 == a1))) else ((r7.1 == a2) && (r7.2 == a1)))))) rfl hc14 ?_
   refine ak ⟨tab [(8, vb true)], ae [], 0⟩ ?_ ?_
   ·
    refine q1 _ ?_
    exact nR []
   obtain ⟨r15, kr15, hr⟩ := dO (o := some true) (g := Br.ret) h
   subst hr
   have h := kr15
   have hh := aC h
   subst hh
   refine bA ?_
   refine And.intro (fun hn => nomatch hn) ?_
   intro hq
   have hq := hq.symm
   subst hq
   show FQ _ _ _ _
   exact bZ (.inr rfl) (bh (v := vb true) rfl rfl) (RV.d trivial)
  ·
   replace h := bp hc14 h
   refine bd (t := ((i1 != a3) && ((a1 != a2) && (if (r7.1 == a1) then ((r7.2 == a2) || ((r7.1 == a2) && (r7.2 == a1))) else ((r7.1 == a2) && (r7.2 == a1)))))) rfl hc14 ?_
   refine bf ?_
   have hh := aC h
   subst hh
   refine bO ⟨tab [(1, vi a1), (2, vi a2), (3, vi a3), (4, ap a0), (9, vi (i1 + 1))], ae [], 0⟩ ?_ ?_
   ·
    refine q1 _ ?_
    refine step (v := vi (i1 + 1)) (cx (cz hinv4 hgo3 hB2) rfl rfl) ?_
    refine q1 _ ?_
    exact nR []
   exact And.intro rfl rfl
 ·
  rintro i1 ⟨⟩ hinv4 hgo3
  show aG _ _ _ _ _ ⟨tab [(1, vi a1), (2, vi a2), (3, vi a3), (4, ap a0), (9, vi i1)], ae [], 0⟩
  have hc5 : ¬ (decide (i1 < (a0.Links.length : Int)) = true) := fun hq => hgo3 (of_decide_eq_true hq)
  refine aH ?_
  refine ak ⟨tab [(1, vi a1), (2, vi a2), (3, vi a3), (4, ap a0), (9, vi i1), (16, vb (decide (i1 < (a0.Links.length : Int))))], ae [], 0⟩ ?_ ?_
  ·
   iterate 3 refine q1 _ ?_
   refine step (v := vi (a0.Links.length : Int)) (bR (xs := a0.Links) (e := (bF eapi_Port)) rfl) ?_
   refine q1 _ ?_
   exact nR []
  refine bd (t := decide (i1 < (a0.Links.length : Int))) rfl hc5 ?_
  refine bg (s0 := ⟨tab [], ae [], 0⟩) (nr []) ?_
  refine ce ?_
  exact And.intro rfl rfl
 ·
  intro r' hq
  subst hq
  exact aC h
 rintro ⟨⟩ rfl
 refine ak ⟨tab [(8, vb false)], ae [], 0⟩ ?_ ?_
 ·
  refine q1 _ ?_
  exact nR []
 have hh := aC h
 subst hh
 refine bA ?_
 show FQ _ _ _ _
 exact bZ (.inr rfl) (bh (v := vb false) rfl rfl) (RV.d trivial)
theorem md {a0 : api_Topo} {a1 : Int} {a2 : Int} {a3 : Int} {r : Int} (h : fg a0 a1 a2 a3 = some r) : PCall Try.prog 27 [eapi_Topo a0, .int .i64 a1, .int .i64 a2, .int .i64 a3] (.int .i64 r) := by
 refine PCall.introN ua (show 4 ≤ 91 by decide) ?_
 refine bg (s0 := ⟨tab [(0, vs1 a0), (1, vi a1), (2, vi a2), (3, vi a3)], ae [], 0⟩) (nr []) ?_
 refine ak ⟨tab [(1, vi a1), (2, vi a2), (3, vi a3), (4, ap a0)], ae [], 0⟩ ?_ ?_
 ·
  iterate 2 refine q1 _ ?_
  exact nR []
 refine ak ⟨tab [(1, vi a1), (2, vi a2), (3, vi a3), (4, ap a0), (9, vi (a0.Switches.length : Int))], ae [], 0⟩ ?_ ?_
 ·
  iterate 2 refine q1 _ ?_
  refine step (v := vi (a0.Switches.length : Int)) (bR (xs := a0.Switches) (e := (D.int .u16)) rfl) ?_
  refine q1 _ ?_
  exact nR []
 refine aH ?_
 refine ak ⟨tab [(1, vi a1), (2, vi a2), (3, vi a3), (4, ap a0), (9, vi (a0.Switches.length : Int)), (33, vb ((decide (a1 < 0)) || ((decide (a1 ≥ (a0.Switches.length : Int))) || ((decide (a2 < 0)) || (decide (a2 ≥ (a0.Switches.length : Int)))))))], ae [], 0⟩ ?_ ?_
 ·
  iterate 3 refine q1 _ ?_
  by_cases hg1 : decide (a1 < 0) = true
  ·
   iterate 3 refine qX (decide (a1 < 0)) (by rw [hg1]; decide) ?_
   refine step (v := vb true) (ba (b := decide (a1 < 0)) rfl hg1 rfl) ?_
   refine q1 _ ?_
   iterate 2 refine qX true (by decide) ?_
   refine step (v := vb true) (ba (b := true) rfl rfl rfl) ?_
   refine q1 _ ?_
   iterate 3 refine qX true (by decide) ?_
   refine step (v := vb true) (ba (b := true) rfl rfl rfl) ?_
   exact aI.nil' (nm [] ⟨.d _, .d _, .d _, .d _, .d _, .eq (by first | (simp [hg1]; done) | (simp_all; done) | grind), trivial⟩ trivial)
  ·
   refine qG (decide (a1 < 0)) (Bool.eq_false_iff.2 hg1) ?_
   refine q1 _ ?_
   refine qG (decide (a1 < 0)) (Bool.eq_false_iff.2 hg1) ?_
   refine q1 _ ?_
   refine qG (decide (a1 < 0)) (Bool.eq_false_iff.2 hg1) ?_
   refine q1 _ ?_
   refine step (v := vb (decide (a1 ≥ (a0.Switches.length : Int)))) (bk (b := decide (a1 < 0)) rfl hg1 rfl) ?_
   refine q1 _ ?_
   by_cases hg2 : decide (a1 ≥ (a0.Switches.length : Int)) = true
   ·
    iterate 2 refine qX (decide (a1 ≥ (a0.Switches.length : Int))) (by rw [hg2]; decide) ?_
    refine step (v := vb true) (ba (b := decide (a1 ≥ (a0.Switches.length : Int))) rfl hg2 rfl) ?_
    refine q1 _ ?_
    iterate 3 refine qX true (by decide) ?_
    refine step (v := vb true) (ba (b := true) rfl rfl rfl) ?_
    exact aI.nil' (nm [] ⟨.d _, .d _, .d _, .d _, .d _, .eq (by first | (simp [hg1, hg2]; done) | (simp_all; done) | grind), trivial⟩ trivial)
   ·
    refine qG (decide (a1 ≥ (a0.Switches.length : Int))) (Bool.eq_false_iff.2 hg2) ?_
    refine q1 _ ?_
    refine qG (decide (a1 ≥ (a0.Switches.length : Int))) (Bool.eq_false_iff.2 hg2) ?_
    refine q1 _ ?_
    refine step (v := vb (decide (a2 < 0))) (bk (b := decide (a1 ≥ (a0.Switches.length : Int))) rfl hg2 rfl) ?_
    refine q1 _ ?_
    by_cases hg3 : decide (a2 < 0) = true
    ·
     iterate 3 refine qX (decide (a2 < 0)) (by rw [hg3]; decide) ?_
     refine step (v := vb true) (ba (b := decide (a2 < 0)) rfl hg3 rfl) ?_
     exact aI.nil' (nm [] ⟨.d _, .d _, .d _, .d _, .d _, .eq (by first | (simp [hg1, hg2, hg3]; done) | (simp_all; done) | grind), trivial⟩ trivial)
    ·
     refine qG (decide (a2 < 0)) (Bool.eq_false_iff.2 hg3) ?_
     refine q1 _ ?_
     refine qG (decide (a2 < 0)) (Bool.eq_false_iff.2 hg3) ?_
     refine q1 _ ?_
     refine qG (decide (a2 < 0)) (Bool.eq_false_iff.2 hg3) ?_
     refine q1 _ ?_
     refine step (v := vb (decide (a2 ≥ (a0.Switches.length : Int)))) (bk (b := decide (a2 < 0)) rfl hg3 rfl) ?_
     exact aI.nil' (nm [] ⟨.d _, .d _, .d _, .d _, .d _, .eq (by first | (simp [hg1, hg2, hg3]; done) | (simp_all; done) | grind), trivial⟩ trivial)
 by_cases hc4 : ((decide (a1 < 0)) || ((decide (a1 ≥ (a0.Switches.length : Int))) || ((decide (a2 < 0)) || (decide (a2 ≥ (a0.Switches.length : Int)))))) = true
 ·
  replace h := bo hc4 h
  refine bb (t := ((decide (a1 < 0)) || ((decide (a1 ≥ (a0.Switches.length : Int))) || ((decide (a2 < 0)) || (decide (a2 ≥ (a0.Switches.length : Int))))))) rfl hc4 ?_
  refine ak ⟨tab [(8, vi (-1))], ae [], 0⟩ ?_ ?_
  ·
   refine q1 _ ?_
   exact nR []
  have hh := aC h
  subst hh
  refine bA ?_
  show FQ _ _ _ _
  exact bZ (.inr rfl) (bh (v := vi (-1)) rfl rfl) (RV.d trivial)
 ·
  replace h := bp hc4 h
  refine bd (t := ((decide (a1 < 0)) || ((decide (a1 ≥ (a0.Switches.length : Int))) || ((decide (a2 < 0)) || (decide (a2 ≥ (a0.Switches.length : Int))))))) rfl hc4 ?_
  refine bf ?_
  obtain ⟨l5, hl5, h⟩ := aB h
  refine ak ⟨tab [(1, vi a1), (2, vi a2), (3, vi a3), (4, ap a0), (9, vi (a0.Switches.length : Int)), (10, .loc 0 0 l5.length)], ae [(0, .lst true none (List.map (D.int .i64) l5))], 1⟩ ?_ ?_
  ·
   refine q1 _ ?_
   refine step (v := .loc 0 0 l5.length) (σ' := (ah (ae []) 0 (some (.lst true none (List.map (D.int .i64) l5))))) (n' := 1) (ol (e := (D.int .i64)) (z := 0) hl5 rfl rfl (ot hl5)) ?_
   refine q1 _ ?_
   exact nR [0]
  refine aH ?_
  refine ak ⟨tab [(1, vi a1), (2, vi a2), (3, vi a3), (4, ap a0), (9, vi (a0.Switches.length : Int)), (10, .loc 0 0 l5.length), (11, vi 0)], ae [(0, .lst true none (List.map (D.int .i64) l5))], 1⟩ ?_ ?_
  ·
   refine q1 _ ?_
   exact nR [0]
  obtain ⟨z15, hl, h⟩ := aB h
  refine br ?_
  refine e7 (cC (a0.Switches.length : Int)) (fun (i7 : Int) (qq : (List Int)) => ⟨tab [(1, vi a1), (2, vi a2), (3, vi a3), (4, ap a0), (9, vi (a0.Switches.length : Int)), (10, .loc 0 0 qq.length), (11, vi i7)], ae [(0, .lst true none (List.map (D.int .i64) qq))], 1⟩) 0 (fun (qq : (List Int)) => ⟨tab [(1, vi a1), (2, vi a2), (3, vi a3), (4, ap a0), (9, vi (a0.Switches.length : Int)), (10, .loc 0 0 qq.length)], ae [(0, .lst true none (List.map (D.int .i64) qq))], 1⟩) bu cD hl (by unfold bu; omega) ?_ ?_ ?_
  ·
   rintro i7 l6 xr12 hinv10 hgo9 h
   show aG _ _ _ _ _ ⟨tab [(1, vi a1), (2, vi a2), (3, vi a3), (4, ap a0), (9, vi (a0.Switches.length : Int)), (10, .loc 0 0 l6.length), (11, vi i7)], ae [(0, .lst true none (List.map (D.int .i64) l6))], 1⟩
   have hc11 : decide (i7 < (a0.Switches.length : Int)) = true := decide_eq_true hgo9
   refine aH ?_
   refine ak ⟨tab [(1, vi a1), (2, vi a2), (3, vi a3), (4, ap a0), (9, vi (a0.Switches.length : Int)), (10, .loc 0 0 l6.length), (11, vi i7), (37, vi (a0.Switches.length : Int)), (38, vb (decide (i7 < (a0.Switches.length : Int))))], ae [(0, .lst true none (List.map (D.int .i64) l6))], 1⟩ ?_ ?_
   ·
    iterate 3 refine q1 _ ?_
    exact nR [0]
   refine cB 37 rfl fun hB8 => ?_
   refine bb (t := decide (i7 < (a0.Switches.length : Int))) rfl hc11 ?_
   refine bf ?_
   refine aH ?_
   refine br ?_
   obtain ⟨x13, hx13, h⟩ := aB h
   obtain ⟨l14, hl14, h⟩ := aB h
   refine bO ⟨tab [(1, vi a1), (2, vi a2), (3, vi a3), (4, ap a0), (9, vi (a0.Switches.length : Int)), (10, .loc 0 0 l14.length), (11, vi i7)], ae [(0, .lst true none (List.map (D.int .i64) l14))], 1⟩ ?_ ?_
   ·
    iterate 2 refine q1 _ ?_
    refine step (v := .ptr 0 i7.toNat 0) (dN (xs := l6) (e := (D.int .i64)) hx13 rfl rfl rfl rfl) ?_
    refine step (v := V.undef) (σ' := (ah (ae [(0, .lst true none (List.map (D.int .i64) l6))]) 0 (some (.lst true none (List.map (D.int .i64) l14))))) (n' := 1) (gz (e := (D.int .i64)) (v' := (-1)) hl14 rfl rfl rfl rfl rfl) ?_
    exact aI.nil' (nm [0] ⟨.d _, .d _, .d _, .d _, .d _, .le (id := 0) (gy hl14).symm (show 0 < 1 by decide), .d _, trivial⟩ ⟨⟨show 0 < 1 by decide, _, rfl, .lst _ _ _⟩, trivial⟩)
   have hh := aC h
   subst hh
   refine bO ⟨tab [(1, vi a1), (2, vi a2), (3, vi a3), (4, ap a0), (9, vi (a0.Switches.length : Int)), (10, .loc 0 0 l14.length), (11, vi (i7 + 1))], ae [(0, .lst true none (List.map (D.int .i64) l14))], 1⟩ ?_ ?_
   ·
    refine q1 _ ?_
    refine step (v := vi (i7 + 1)) (cx (cz hinv10 hgo9 hB8) rfl rfl) ?_
    refine q1 _ ?_
    exact nR [0]
   exact And.intro rfl rfl
  ·
   rintro i7 l6 hinv10 hgo9
   show aG _ _ _ _ _ ⟨tab [(1, vi a1), (2, vi a2), (3, vi a3), (4, ap a0), (9, vi (a0.Switches.length : Int)), (10, .loc 0 0 l6.length), (11, vi i7)], ae [(0, .lst true none (List.map (D.int .i64) l6))], 1⟩
   have hc11 : ¬ (decide (i7 < (a0.Switches.length : Int)) = true) := fun hq => hgo9 (of_decide_eq_true hq)
   refine aH ?_
   refine ak ⟨tab [(1, vi a1), (2, vi a2), (3, vi a3), (4, ap a0), (9, vi (a0.Switches.length : Int)), (10, .loc 0 0 l6.length), (11, vi i7), (38, vb (decide (i7 < (a0.Switches.length : Int))))], ae [(0, .lst true none (List.map (D.int .i64) l6))], 1⟩ ?_ ?_
   ·
    iterate 3 refine q1 _ ?_
    exact nR [0]
   refine bd (t := decide (i7 < (a0.Switches.length : Int))) rfl hc11 ?_
   refine bg (s0 := ⟨tab [(1, vi a1), (2, vi a2), (3, vi a3), (4, ap a0), (9, vi (a0.Switches.length : Int)), (10, .loc 0 0 l6.length)], ae [(0, .lst true none (List.map (D.int .i64) l6))], 1⟩) (nr [0]) ?_
   refine ce ?_
   exact And.intro rfl rfl
  obtain ⟨x16, hx16, h⟩ := aB h
  obtain ⟨l17, hl17, h⟩ := aB h
  refine ak ⟨tab [(2, vi a2), (3, vi a3), (4, ap a0), (9, vi (a0.Switches.length : Int)), (10, .loc 0 0 l17.length)], ae [(0, .lst true none (List.map (D.int .i64) l17))], 1⟩ ?_ ?_
  ·
   iterate 2 refine q1 _ ?_
   refine step (v := .ptr 0 a1.toNat 0) (dN (xs := z15) (e := (D.int .i64)) hx16 rfl rfl rfl rfl) ?_
   refine step (v := V.undef) (σ' := (ah (ae [(0, .lst true none (List.map (D.int .i64) z15))]) 0 (some (.lst true none (List.map (D.int .i64) l17))))) (n' := 1) (gz (e := (D.int .i64)) (v' := 0) hl17 rfl rfl rfl rfl rfl) ?_
   exact aI.nil' (nm [0] ⟨.d _, .d _, .d _, .d _, .le (id := 0) (gy hl17).symm (show 0 < 1 by decide), trivial⟩ ⟨⟨show 0 < 1 by decide, _, rfl, .lst _ _ _⟩, trivial⟩)
  refine aH ?_
  refine ak ⟨tab [(2, vi a2), (3, vi a3), (4, ap a0), (9, vi (a0.Switches.length : Int)), (10, .loc 0 0 l17.length), (12, vi 0)], ae [(0, .lst true none (List.map (D.int .i64) l17))], 1⟩ ?_ ?_
  ·
   refine q1 _ ?_
   exact nR [0]
  obtain ⟨z55, hl, h⟩ := aB h
  refine br ?_
  refine e7 (cC (a0.Switches.length : Int)) (fun (i19 : Int) (qq : (List Int)) => ⟨tab [(2, vi a2), (3, vi a3), (4, ap a0), (9, vi (a0.Switches.length : Int)), (10, .loc 0 0 qq.length), (12, vi i19)], ae [(0, .lst true none (List.map (D.int .i64) qq))], 1⟩) 2 (fun (qq : (List Int)) => ⟨tab [(2, vi a2), (10, .loc 0 0 qq.length)], ae [(0, .lst true none (List.map (D.int .i64) qq))], 1⟩) bu cD hl (by unfold bu; omega) ?_ ?_ ?_
  ·
   rintro i19 l18 xr24 hinv22 hgo21 h
   show aG _ _ _ _ _ ⟨tab [(2, vi a2), (3, vi a3), (4, ap a0), (9, vi (a0.Switches.length : Int)), (10, .loc 0 0 l18.length), (12, vi i19)], ae [(0, .lst true none (List.map (D.int .i64) l18))], 1⟩
   have hc23 : decide (i19 < (a0.Switches.length : Int)) = true := decide_eq_true hgo21
   refine aH ?_
   refine ak ⟨tab [(2, vi a2), (3, vi a3), (4, ap a0), (9, vi (a0.Switches.length : Int)), (10, .loc 0 0 l18.length), (12, vi i19), (48, vi (a0.Switches.length : Int)), (49, vb (decide (i19 < (a0.Switches.length : Int))))], ae [(0, .lst true none (List.map (D.int .i64) l18))], 1⟩ ?_ ?_
   ·
    iterate 3 refine q1 _ ?_
    exact nR [0]
   refine cB 48 rfl fun hB20 => ?_
   refine bb (t := decide (i19 < (a0.Switches.length : Int))) rfl hc23 ?_
   refine bf ?_
   refine aH ?_
   refine br ?_
   refine ak ⟨tab [(2, vi a2), (3, vi a3), (4, ap a0), (9, vi (a0.Switches.length : Int)), (10, .loc 0 0 l18.length), (12, vi i19), (13, vi 0)], ae [(0, .lst true none (List.map (D.int .i64) l18))], 1⟩ ?_ ?_
   ·
    refine q1 _ ?_
    exact nR [0]
   obtain ⟨z53, hl, h⟩ := aB h
   refine br ?_
   refine e7 (cC (a0.Switches.length : Int)) (fun (i26 : Int) (qq : (List Int)) => ⟨tab [(2, vi a2), (3, vi a3), (4, ap a0), (9, vi (a0.Switches.length : Int)), (10, .loc 0 0 qq.length), (12, vi i19), (13, vi i26)], ae [(0, .lst true none (List.map (D.int .i64) qq))], 1⟩) 4 (fun (qq : (List Int)) => ⟨tab [(2, vi a2), (3, vi a3), (4, ap a0), (9, vi (a0.Switches.length : Int)), (10, .loc 0 0 qq.length), (12, vi i19)], ae [(0, .lst true none (List.map (D.int .i64) qq))], 1⟩) bu cD hl (by unfold bu; omega) ?_ ?_ ?_
   ·
    rintro i26 l25 xr31 hinv29 hgo28 h
    show aG _ _ _ _ _ ⟨tab [(2, vi a2), (3, vi a3), (4, ap a0), (9, vi (a0.Switches.length : Int)), (10, .loc 0 0 l25.length), (12, vi i19), (13, vi i26)], ae [(0, .lst true none (List.map (D.int .i64) l25))], 1⟩
    have hc30 : decide (i26 < (a0.Switches.length : Int)) = true := decide_eq_true hgo28
    refine aH ?_
    refine ak ⟨tab [(2, vi a2), (3, vi a3), (4, ap a0), (9, vi (a0.Switches.length : Int)), (10, .loc 0 0 l25.length), (12, vi i19), (13, vi i26), (53, vi (a0.Switches.length : Int)), (54, vb (decide (i26 < (a0.Switches.length : Int))))], ae [(0, .lst true none (List.map (D.int .i64) l25))], 1⟩ ?_ ?_
    ·
     iterate 3 refine q1 _ ?_
     exact nR [0]
    refine cB 53 rfl fun hB27 => ?_
    refine bb (t := decide (i26 < (a0.Switches.length : Int))) rfl hc30 ?_
    refine bf ?_
    refine aH ?_
    refine br ?_
    refine ak ⟨tab [(2, vi a2), (3, vi a3), (4, ap a0), (9, vi (a0.Switches.length : Int)), (10, .loc 0 0 l25.length), (12, vi i19), (13, vi i26), (14, vi 0)], ae [(0, .lst true none (List.map (D.int .i64) l25))], 1⟩ ?_ ?_
    ·
     refine q1 _ ?_
     exact nR [0]
    obtain ⟨z51, hl, h⟩ := aB h
    refine br ?_
    refine e7 (cC (a0.Switches.length : Int)) (fun (i33 : Int) (qq : (List Int)) => ⟨tab [(2, vi a2), (3, vi a3), (4, ap a0), (9, vi (a0.Switches.length : Int)), (10, .loc 0 0 qq.length), (12, vi i19), (13, vi i26), (14, vi i33)], ae [(0, .lst true none (List.map (D.int .i64) qq))], 1⟩) 6 (fun (qq : (List Int)) => ⟨tab [(2, vi a2), (3, vi a3), (4, ap a0), (9, vi (a0.Switches.length : Int)), (10, .loc 0 0 qq.length), (12, vi i19), (13, vi i26)], ae [(0, .lst true none (List.map (D.int .i64) qq))], 1⟩) bu cD hl (by unfold bu; omega) ?_ ?_ ?_
    ·
     rintro i33 l32 xr38 hinv36 hgo35 h
     show aG _ _ _ _ _ ⟨tab [(2, vi a2), (3, vi a3), (4, ap a0), (9, vi (a0.Switches.length : Int)), (10, .loc 0 0 l32.length), (12, vi i19), (13, vi i26), (14, vi i33)], ae [(0, .lst true none (List.map (D.int .i64) l32))], 1⟩
     have hc37 : decide (i33 < (a0.Switches.length : Int)) = true := decide_eq_true hgo35
     refine aH ?_
     refine ak ⟨tab [(2, vi a2), (3, vi a3), (4, ap a0), (9, vi (a0.Switches.length : Int)), (10, .loc 0 0 l32.length), (12, vi i19), (13, vi i26), (14, vi i33), (58, vi (a0.Switches.length : Int)), (59, vb (decide (i33 < (a0.Switches.length : Int))))], ae [(0, .lst true none (List.map (D.int .i64) l32))], 1⟩ ?_ ?_
     ·
      iterate 3 refine q1 _ ?_
      exact nR [0]
     refine cB 58 rfl fun hB34 => ?_
     refine bb (t := decide (i33 < (a0.Switches.length : Int))) rfl hc37 ?_
     refine bf ?_
     obtain ⟨l49, hv, h⟩ := aB h
     refine iO ⟨tab [(2, vi a2), (3, vi a3), (4, ap a0), (9, vi (a0.Switches.length : Int)), (10, .loc 0 0 l49.length), (12, vi i19), (13, vi i26), (14, vi i33)], ae [(0, .lst true none (List.map (D.int .i64) l49))], 1⟩ ?_ ?_
     ·
      replace h := hv
      refine br ?_
      obtain ⟨x39, hx39, h⟩ := aB h
      obtain ⟨y44, hv, h⟩ := aB h
      refine ak ⟨tab [(2, vi a2), (3, vi a3), (4, ap a0), (9, vi (a0.Switches.length : Int)), (10, .loc 0 0 l32.length), (12, vi i19), (13, vi i26), (14, vi i33), (81, vb y44)], ae [(0, .lst true none (List.map (D.int .i64) l32))], 1⟩ ?_ ?_
      ·
       iterate 2 refine q1 _ ?_
       refine step (v := .ptr 0 i26.toNat 0) (dN (xs := l32) (e := (D.int .i64)) hx39 rfl rfl rfl rfl) ?_
       refine step (v := vi x39) (e8 (xs := l32) (e := (D.int .i64)) hx39 rfl rfl rfl) ?_
       iterate 3 refine q1 _ ?_
       by_cases hg40 : (x39 == i19) = true
       ·
        replace hv := bo hg40 hv
        obtain ⟨x41, hx41, hv⟩ := aB hv
        refine qG _ hg40 ?_
        refine q1 _ ?_
        refine qG _ hg40 ?_
        refine q1 _ ?_
        refine qG _ hg40 ?_
        refine step (v := .ptr 0 i33.toNat 0) (dN (xs := l32) (e := (D.int .i64)) hx41 rfl rfl rfl rfl) ?_
        refine qG _ hg40 ?_
        refine step (v := vi x41) (e8 (xs := l32) (e := (D.int .i64)) hx41 rfl rfl rfl) ?_
        refine qG _ hg40 ?_
        refine q1 _ ?_
        refine step (v := vb (decide (x41 < 0))) (ba (b := (x39 == i19)) rfl hg40 rfl) ?_
        refine q1 _ ?_
        by_cases hg42 : decide (x41 < 0) = true
        ·
         replace hv := bo hg42 hv
         obtain ⟨r43, hr43, hv⟩ := aB hv
         refine qG _ hg42 ?_
         refine q1 _ ?_
         refine qG _ hg42 ?_
         refine q1 _ ?_
         refine qG _ hg42 ?_
         refine q1 _ ?_
         refine qG _ hg42 ?_
         refine q1 _ ?_
         refine qG _ hg42 ?_
         refine bI (r := .bool r43) (aK (aK (aK (aK a8.nil')))) (mc hr43) ?_
         refine step (v := vb r43) (ba (b := decide (x41 < 0)) rfl hg42 rfl) ?_
         have hh := aC hv
         subst hh
         exact nR [0]
        ·
         replace hv := bp hg42 hv
         iterate 5 refine qX _ hg42 ?_
         refine step (v := vb false) (bk (b := decide (x41 < 0)) rfl hg42 rfl) ?_
         have hh := aC hv
         subst hh
         exact nR [0]
       ·
        replace hv := bp hg40 hv
        iterate 5 refine qX _ hg40 ?_
        refine step (v := vb false) (bk (b := (x39 == i19)) rfl hg40 rfl) ?_
        refine q1 _ ?_
        iterate 5 refine qX false (by decide) ?_
        refine step (v := vb false) (bk (b := false) rfl (by decide) rfl) ?_
        have hh := aC hv
        subst hh
        exact nR [0]
      by_cases hc46 : y44 = true
      ·
       replace h := bo hc46 h
       refine bb (t := y44) rfl hc46 ?_
       obtain ⟨x47, hx47, h⟩ := aB h
       obtain ⟨l48, hl48, h⟩ := aB h
       have hh := aC h
       subst hh
       refine bO ⟨tab [(2, vi a2), (3, vi a3), (4, ap a0), (9, vi (a0.Switches.length : Int)), (10, .loc 0 0 l48.length), (12, vi i19), (13, vi i26), (14, vi i33)], ae [(0, .lst true none (List.map (D.int .i64) l48))], 1⟩ ?_ ?_
       ·
        iterate 3 refine q1 _ ?_
        refine step (v := vi (i19 + 1)) (cx (cz hinv22 hgo21 hB20) rfl rfl) ?_
        refine step (v := .ptr 0 i33.toNat 0) (dN (xs := l32) (e := (D.int .i64)) hx47 rfl rfl rfl rfl) ?_
        refine step (v := V.undef) (σ' := (ah (ae [(0, .lst true none (List.map (D.int .i64) l32))]) 0 (some (.lst true none (List.map (D.int .i64) l48))))) (n' := 1) (gz (e := (D.int .i64)) (v' := (i19 + 1)) hl48 rfl rfl rfl rfl rfl) ?_
        exact aI.nil' (nm [0] ⟨.d _, .d _, .d _, .d _, .le (id := 0) (gy hl48).symm (show 0 < 1 by decide), .d _, .d _, .d _, trivial⟩ ⟨⟨show 0 < 1 by decide, _, rfl, .lst _ _ _⟩, trivial⟩)
       exact And.intro rfl rfl
      ·
       replace h := bp hc46 h
       refine bd (t := y44) rfl hc46 ?_
       have hh := aC h
       subst hh
       refine bg (s0 := ⟨tab [(2, vi a2), (3, vi a3), (4, ap a0), (9, vi (a0.Switches.length : Int)), (10, .loc 0 0 l32.length), (12, vi i19), (13, vi i26), (14, vi i33)], ae [(0, .lst true none (List.map (D.int .i64) l32))], 1⟩) (nr [0]) ?_
       refine bf ?_
       exact And.intro rfl rfl
     have hh := aC h
     subst hh
     refine bO ⟨tab [(2, vi a2), (3, vi a3), (4, ap a0), (9, vi (a0.Switches.length : Int)), (10, .loc 0 0 l49.length), (12, vi i19), (13, vi i26), (14, vi (i33 + 1))], ae [(0, .lst true none (List.map (D.int .i64) l49))], 1⟩ ?_ ?_
     ·
      refine q1 _ ?_
      refine step (v := vi (i33 + 1)) (cx (cz hinv36 hgo35 hB34) rfl rfl) ?_
      refine q1 _ ?_
      exact nR [0]
     exact And.intro rfl rfl
    ·
     rintro i33 l32 hinv36 hgo35
     show aG _ _ _ _ _ ⟨tab [(2, vi a2), (3, vi a3), (4, ap a0), (9, vi (a0.Switches.length : Int)), (10, .loc 0 0 l32.length), (12, vi i19), (13, vi i26), (14, vi i33)], ae [(0, .lst true none (List.map (D.int .i64) l32))], 1⟩
     have hc37 : ¬ (decide (i33 < (a0.Switches.length : Int)) = true) := fun hq => hgo35 (of_decide_eq_true hq)
     refine aH ?_
     refine ak ⟨tab [(2, vi a2), (3, vi a3), (4, ap a0), (9, vi (a0.Switches.length : Int)), (10, .loc 0 0 l32.length), (12, vi i19), (13, vi i26), (14, vi i33), (59, vb (decide (i33 < (a0.Switches.length : Int))))], ae [(0, .lst true none (List.map (D.int .i64) l32))], 1⟩ ?_ ?_
     ·
      iterate 3 refine q1 _ ?_
      exact nR [0]
     refine bd (t := decide (i33 < (a0.Switches.length : Int))) rfl hc37 ?_
     refine bg (s0 := ⟨tab [(2, vi a2), (3, vi a3), (4, ap a0), (9, vi (a0.Switches.length : Int)), (10, .loc 0 0 l32.length), (12, vi i19), (13, vi i26)], ae [(0, .lst true none (List.map (D.int .i64) l32))], 1⟩) (nr [0]) ?_
     refine ce ?_
     exact And.intro rfl rfl
    have hh := aC h
    subst hh
    refine bO ⟨tab [(2, vi a2), (3, vi a3), (4, ap a0), (9, vi (a0.Switches.length : Int)), (10, .loc 0 0 z51.length), (12, vi i19), (13, vi (i26 + 1))], ae [(0, .lst true none (List.map (D.int .i64) z51))], 1⟩ ?_ ?_
    ·
     refine q1 _ ?_
     refine step (v := vi (i26 + 1)) (cx (cz hinv29 hgo28 hB27) rfl rfl) ?_
     refine q1 _ ?_
     exact nR [0]
    exact And.intro rfl rfl
   ·
    rintro i26 l25 hinv29 hgo28
    show aG _ _ _ _ _ ⟨tab [(2, vi a2), (3, vi a3), (4, ap a0), (9, vi (a0.Switches.length : Int)), (10, .loc 0 0 l25.length), (12, vi i19), (13, vi i26)], ae [(0, .lst true none (List.map (D.int .i64) l25))], 1⟩
    have hc30 : ¬ (decide (i26 < (a0.Switches.length : Int)) = true) := fun hq => hgo28 (of_decide_eq_true hq)
    refine aH ?_
    refine ak ⟨tab [(2, vi a2), (3, vi a3), (4, ap a0), (9, vi (a0.Switches.length : Int)), (10, .loc 0 0 l25.length), (12, vi i19), (13, vi i26), (54, vb (decide (i26 < (a0.Switches.length : Int))))], ae [(0, .lst true none (List.map (D.int .i64) l25))], 1⟩ ?_ ?_
    ·
     iterate 3 refine q1 _ ?_
     exact nR [0]
    refine bd (t := decide (i26 < (a0.Switches.length : Int))) rfl hc30 ?_
    refine bg (s0 := ⟨tab [(2, vi a2), (3, vi a3), (4, ap a0), (9, vi (a0.Switches.length : Int)), (10, .loc 0 0 l25.length), (12, vi i19)], ae [(0, .lst true none (List.map (D.int .i64) l25))], 1⟩) (nr [0]) ?_
    refine ce ?_
    exact And.intro rfl rfl
   have hh := aC h
   subst hh
   refine bO ⟨tab [(2, vi a2), (3, vi a3), (4, ap a0), (9, vi (a0.Switches.length : Int)), (10, .loc 0 0 z53.length), (12, vi (i19 + 1))], ae [(0, .lst true none (List.map (D.int .i64) z53))], 1⟩ ?_ ?_
   ·
    refine q1 _ ?_
    refine step (v := vi (i19 + 1)) (cx (cz hinv22 hgo21 hB20) rfl rfl) ?_
    refine q1 _ ?_
    exact nR [0]
   exact And.intro rfl rfl
  ·
   rintro i19 l18 hinv22 hgo21
   show aG _ _ _ _ _ ⟨tab [(2, vi a2), (3, vi a3), (4, ap a0), (9, vi (a0.Switches.length : Int)), (10, .loc 0 0 l18.length), (12, vi i19)], ae [(0, .lst true none (List.map (D.int .i64) l18))], 1⟩
   have hc23 : ¬ (decide (i19 < (a0.Switches.length : Int)) = true) := fun hq => hgo21 (of_decide_eq_true hq)
   refine aH ?_
   refine ak ⟨tab [(2, vi a2), (3, vi a3), (4, ap a0), (9, vi (a0.Switches.length : Int)), (10, .loc 0 0 l18.length), (12, vi i19), (49, vb (decide (i19 < (a0.Switches.length : Int))))], ae [(0, .lst true none (List.map (D.int .i64) l18))], 1⟩ ?_ ?_
   ·
    iterate 3 refine q1 _ ?_
    exact nR [0]
   refine bd (t := decide (i19 < (a0.Switches.length : Int))) rfl hc23 ?_
   refine bg (s0 := ⟨tab [(2, vi a2), (10, .loc 0 0 l18.length)], ae [(0, .lst true none (List.map (D.int .i64) l18))], 1⟩) (nr [0]) ?_
   refine ce ?_
   exact And.intro rfl rfl
  obtain ⟨x56, hx56, h⟩ := aB h
  refine ak ⟨tab [(8, vi x56)], ae [], 0⟩ ?_ ?_
  ·
   iterate 2 refine q1 _ ?_
   refine step (v := .ptr 0 a2.toNat 0) (dN (xs := z55) (e := (D.int .i64)) hx56 rfl rfl rfl rfl) ?_
   refine step (v := vi x56) (e8 (xs := z55) (e := (D.int .i64)) hx56 rfl rfl rfl) ?_
   refine q1 _ ?_
   exact nR []
  have hh := aC h
  subst hh
  refine bA ?_
  show FQ _ _ _ _
  exact bZ (.inr rfl) (bh (v := vi x56) rfl rfl) (RV.d trivial)
theorem uU {a0 : api_Topo} {a1 : Int} {a2 : Int} {r : ((List Int) × Bool)} (h : fC a0 a1 a2 = some r) : PCall Try.prog 24 [eapi_Topo a0, .int .i64 a1, .int .i64 a2] (.tup [eL none (D.int .i64) r.1, .bool r.2]) := by
 refine PCall.introN ue (show 3 ≤ 52 by decide) ?_
 refine bg (s0 := ⟨tab [(0, vs1 a0), (1, vi a1), (2, vi a2)], ae [], 0⟩) (nr []) ?_
 refine ak ⟨tab [(1, vi a1), (2, vi a2), (3, ap a0)], ae [], 0⟩ ?_ ?_
 ·
  iterate 3 refine q1 _ ?_
  exact nR []
 obtain ⟨r1, hr1, h⟩ := aB h
 refine ak ⟨tab [(1, vi a1), (2, vi a2), (3, ap a0), (8, vi r1)], ae [], 0⟩ ?_ ?_
 ·
  iterate 3 refine q1 _ ?_
  refine bI (r := .int .i64 r1) (aK (aK (aK (aK a8.nil')))) (md hr1) ?_
  refine q1 _ ?_
  exact nR []
 refine aH ?_
 refine ak ⟨tab [(1, vi a1), (2, vi a2), (3, ap a0), (8, vi r1), (17, vb (decide (r1 < 0)))], ae [], 0⟩ ?_ ?_
 ·
  iterate 2 refine q1 _ ?_
  exact nR []
 by_cases hc2 : decide (r1 < 0) = true
 ·
  replace h := bo hc2 h
  refine bb (t := decide (r1 < 0)) rfl hc2 ?_
  refine ak ⟨tab [(6, aS ([] : List Int)), (7, vb false)], ae [], 0⟩ ?_ ?_
  ·
   iterate 2 refine q1 _ ?_
   exact nR []
  have hh := aC h
  subst hh
  refine bA ?_
  show FQ _ _ _ _
  exact dQ (.inr rfl) (bh (v := aS ([] : List Int)) rfl (bh (v := vb false) rfl rfl)) (RV.d (RV.d trivial))
 ·
  replace h := bp hc2 h
  refine bd (t := decide (r1 < 0)) rfl hc2 ?_
  refine bf ?_
  refine ak ⟨tab [(1, vi a1), (2, vi a2), (3, ap a0), (8, vi r1), (9, .loc 0 0 (([a1] : List Int).length))], ae [(0, .lst false none (List.map (D.int .i64) ([a1] : List Int)))], 1⟩ ?_ ?_
  ·
   refine q1 _ ?_
   refine step (v := .loc 0 0 (([a1] : List Int).length)) (σ' := (ah (ae []) 0 (some (.lst false none (List.map (D.int .i64) ([a1] : List Int)))))) (n' := 1) rfl ?_
   refine q1 _ ?_
   exact nR [0]
  refine aH ?_
  refine ak ⟨tab [(2, vi a2), (3, ap a0), (8, vi r1), (9, .loc 0 0 (([a1] : List Int).length)), (10, vi a1)], ae [(0, .lst false none (List.map (D.int .i64) ([a1] : List Int)))], 1⟩ ?_ ?_
  ·
   iterate 2 refine q1 _ ?_
   exact nR [0]
  obtain ⟨q29, hl, h⟩ := aB h
  obtain ⟨z26, z27, z28⟩ := q29
  refine br ?_
  refine oh (fun (qq : (Int × (List Int) × Int)) => ⟨tab [(2, vi a2), (3, ap a0), (8, vi qq.1), (9, .loc 0 0 qq.2.1.length), (10, vi qq.2.2)], ae [(0, .lst false none (List.map (D.int .i64) qq.2.1))], 1⟩) 0 (fun (qq : (Int × (List Int) × Int)) => ⟨tab [(9, .loc 0 0 qq.2.1.length)], ae [(0, .lst false none (List.map (D.int .i64) qq.2.1))], 1⟩) hl ?_ ?_
  ·
   rintro ⟨i3, l4, i5⟩ xr6 h
   show aG _ _ _ _ _ ⟨tab [(2, vi a2), (3, ap a0), (8, vi i3), (9, .loc 0 0 l4.length), (10, vi i5)], ae [(0, .lst false none (List.map (D.int .i64) l4))], 1⟩
   refine aH ?_
   refine ak ⟨tab [(2, vi a2), (3, ap a0), (8, vi i3), (9, .loc 0 0 l4.length), (10, vi i5), (23, vb (i5 != a2))], ae [(0, .lst false none (List.map (D.int .i64) l4))], 1⟩ ?_ ?_
   ·
    iterate 3 refine q1 _ ?_
    exact nR [0]
   by_cases hc7 : (i5 != a2) = true
   ·
    replace h := bo hc7 h
    refine bb (t := (i5 != a2)) rfl hc7 ?_
    refine bf ?_
    refine aH ?_
    refine br ?_
    refine ak ⟨tab [(2, vi a2), (3, ap a0), (8, vi i3), (9, .loc 0 0 l4.length), (10, vi i5), (11, vi 0)], ae [(0, .lst false none (List.map (D.int .i64) l4))], 1⟩ ?_ ?_
    ·
     refine q1 _ ?_
     exact nR [0]
    obtain ⟨q25, hl, h⟩ := aB h
    obtain ⟨z23, z24⟩ := q25
    refine br ?_
    refine rq (cC (a0.Switches.length : Int)) (fun (i10 : Int) (qq : ((List Int) × Int)) => ⟨tab [(2, vi a2), (3, ap a0), (8, vi i3), (9, .loc 0 0 qq.1.length), (10, vi qq.2), (11, vi i10)], ae [(0, .lst false none (List.map (D.int .i64) qq.1))], 1⟩) 2 (fun (qq : ((List Int) × Int)) => ⟨tab [(2, vi a2), (3, ap a0), (8, vi i3), (9, .loc 0 0 qq.1.length), (10, vi qq.2)], ae [(0, .lst false none (List.map (D.int .i64) qq.1))], 1⟩) bu cD hl (by unfold bu; omega) ?_ ?_ ?_
    ·
     rintro i10 ⟨l8, i9⟩ xr15 hinv13 hgo12 h
     show aG _ _ _ _ _ ⟨tab [(2, vi a2), (3, ap a0), (8, vi i3), (9, .loc 0 0 l8.length), (10, vi i9), (11, vi i10)], ae [(0, .lst false none (List.map (D.int .i64) l8))], 1⟩
     have hc14 : decide (i10 < (a0.Switches.length : Int)) = true := decide_eq_true hgo12
     refine aH ?_
     refine ak ⟨tab [(2, vi a2), (3, ap a0), (8, vi i3), (9, .loc 0 0 l8.length), (10, vi i9), (11, vi i10), (29, vi (a0.Switches.length : Int)), (30, vb (decide (i10 < (a0.Switches.length : Int))))], ae [(0, .lst false none (List.map (D.int .i64) l8))], 1⟩ ?_ ?_
     ·
      iterate 3 refine q1 _ ?_
      refine step (v := vi (a0.Switches.length : Int)) (bR (xs := a0.Switches) (e := (D.int .u16)) rfl) ?_
      refine q1 _ ?_
      exact nR [0]
     refine cB 29 rfl fun hB11 => ?_
     refine bb (t := decide (i10 < (a0.Switches.length : Int))) rfl hc14 ?_
     refine bf ?_
     refine aH ?_
     refine br ?_
     obtain ⟨r16, hr16, h⟩ := aB h
     obtain ⟨y19, hv, h⟩ := aB h
     refine ak ⟨tab [(2, vi a2), (3, ap a0), (8, vi i3), (9, .loc 0 0 l8.length), (10, vi i9), (11, vi i10), (45, vb y19)], ae [(0, .lst false none (List.map (D.int .i64) l8))], 1⟩ ?_ ?_
     ·
      iterate 3 refine q1 _ ?_
      refine bI (r := .bool r16) (aK (aK (aK (aK a8.nil')))) (mc hr16) ?_
      refine q1 _ ?_
      by_cases hg17 : r16 = true
      ·
       replace hv := bo hg17 hv
       obtain ⟨r18, hr18, hv⟩ := aB hv
       refine qG _ hg17 ?_
       refine q1 _ ?_
       refine qG _ hg17 ?_
       refine q1 _ ?_
       refine qG _ hg17 ?_
       refine q1 _ ?_
       refine qG _ hg17 ?_
       refine bI (r := .int .i64 r18) (aK (aK (aK (aK a8.nil')))) (md hr18) ?_
       refine qG _ hg17 ?_
       refine q1 _ ?_
       refine qG _ hg17 ?_
       refine q1 _ ?_
       refine qG _ hg17 ?_
       refine q1 _ ?_
       refine step (v := vb (r18 == (IntKind.i64.wrap (i3 - 1)))) (ba (b := r16) rfl hg17 rfl) ?_
       have hh := aC hv
       subst hh
       exact nR [0]
      ·
       replace hv := bp hg17 hv
       iterate 7 refine qX _ hg17 ?_
       refine step (v := vb false) (bk (b := r16) rfl hg17 rfl) ?_
       have hh := aC hv
       subst hh
       exact nR [0]
     by_cases hc21 : y19 = true
     ·
      replace h := bo hc21 h
      refine bb (t := y19) rfl hc21 ?_
      refine ak ⟨tab [(2, vi a2), (3, ap a0), (8, vi i3), (9, .loc 0 0 l8.length), (10, vi i10), (11, vi i10)], ae [(0, .lst false none (List.map (D.int .i64) l8))], 1⟩ ?_ ?_
      ·
       iterate 2 refine q1 _ ?_
       exact nR [0]
      obtain ⟨l22, hl22, h⟩ := aB h
      refine ak ⟨tab [(2, vi a2), (3, ap a0), (8, vi i3), (9, .loc 0 0 l22.length), (10, vi i10)], ae [(0, .lst false none (List.map (D.int .i64) l22))], 1⟩ ?_ ?_
      ·
       iterate 3 refine q1 _ ?_
       refine step (v := .loc 1 0 l22.length) (σ' := (ah (ah (ae [(0, .lst false none (List.map (D.int .i64) l8))]) 0 none) 1 (some (.lst false none (List.map (D.int .i64) l22))))) (n' := 2) (iS (xs := l8) (ys := ([i10] : List Int)) (e := (D.int .i64)) hl22 rfl rfl rfl (iR (xs := ([i10] : List Int)) (e := (D.int .i64)) rfl)) ?_
       refine q1 _ ?_
       exact nR [1]
      have hh := aC h
      subst hh
      refine bg (s0 := ⟨tab [(2, vi a2), (3, ap a0), (8, vi i3), (9, .loc 0 0 l22.length), (10, vi i10)], ae [(0, .lst false none (List.map (D.int .i64) l22))], 1⟩) (nr [0]) ?_
      refine ce ?_
      exact And.intro rfl rfl
     ·
      replace h := bp hc21 h
      refine bd (t := y19) rfl hc21 ?_
      refine bf ?_
      have hh := aC h
      subst hh
      refine bO ⟨tab [(2, vi a2), (3, ap a0), (8, vi i3), (9, .loc 0 0 l8.length), (10, vi i9), (11, vi (i10 + 1))], ae [(0, .lst false none (List.map (D.int .i64) l8))], 1⟩ ?_ ?_
      ·
       refine q1 _ ?_
       refine step (v := vi (i10 + 1)) (cx (cz hinv13 hgo12 hB11) rfl rfl) ?_
       refine q1 _ ?_
       exact nR [0]
      exact And.intro rfl rfl
    ·
     rintro i10 ⟨l8, i9⟩ hinv13 hgo12
     show aG _ _ _ _ _ ⟨tab [(2, vi a2), (3, ap a0), (8, vi i3), (9, .loc 0 0 l8.length), (10, vi i9), (11, vi i10)], ae [(0, .lst false none (List.map (D.int .i64) l8))], 1⟩
     have hc14 : ¬ (decide (i10 < (a0.Switches.length : Int)) = true) := fun hq => hgo12 (of_decide_eq_true hq)
     refine aH ?_
     refine ak ⟨tab [(2, vi a2), (3, ap a0), (8, vi i3), (9, .loc 0 0 l8.length), (10, vi i9), (11, vi i10), (30, vb (decide (i10 < (a0.Switches.length : Int))))], ae [(0, .lst false none (List.map (D.int .i64) l8))], 1⟩ ?_ ?_
     ·
      iterate 3 refine q1 _ ?_
      refine step (v := vi (a0.Switches.length : Int)) (bR (xs := a0.Switches) (e := (D.int .u16)) rfl) ?_
      refine q1 _ ?_
      exact nR [0]
     refine bd (t := decide (i10 < (a0.Switches.length : Int))) rfl hc14 ?_
     refine bg (s0 := ⟨tab [(2, vi a2), (3, ap a0), (8, vi i3), (9, .loc 0 0 l8.length), (10, vi i9)], ae [(0, .lst false none (List.map (D.int .i64) l8))], 1⟩) (nr [0]) ?_
     refine ce ?_
     exact And.intro rfl rfl
    have hh := aC h
    subst hh
    refine bO ⟨tab [(2, vi a2), (3, ap a0), (8, vi (IntKind.i64.wrap (i3 - 1))), (9, .loc 0 0 z23.length), (10, vi z24)], ae [(0, .lst false none (List.map (D.int .i64) z23))], 1⟩ ?_ ?_
    ·
     iterate 3 refine q1 _ ?_
     exact nR [0]
    exact And.intro rfl rfl
   ·
    replace h := bp hc7 h
    refine bd (t := (i5 != a2)) rfl hc7 ?_
    have hh := aC h
    subst hh
    refine bg (s0 := ⟨tab [(9, .loc 0 0 l4.length)], ae [(0, .lst false none (List.map (D.int .i64) l4))], 1⟩) (nr [0]) ?_
    refine ce ?_
    exact And.intro rfl rfl
  refine ak ⟨tab [(6, .loc 0 0 z27.length), (7, vb true)], ae [(0, .lst false none (List.map (D.int .i64) z27))], 1⟩ ?_ ?_
  ·
   iterate 3 refine q1 _ ?_
   exact nR [0]
  have hh := aC h
  subst hh
  refine bA ?_
  show FQ _ _ _ _
  exact dQ (.inr rfl) (bh (v := .loc 0 0 z27.length) rfl (bh (v := vb true) rfl rfl)) (RV.loc (xs := z27) (e := (D.int .i64)) rfl rfl (RV.d trivial))
theorem uV {a0 : api_Topo} {a1 : api_Port} {r : (api_Port × Bool)} (h : io a0 a1 = some r) : PCall Try.prog 30 [eapi_Topo a0, eapi_Port a1] (.tup [eapi_Port r.1, .bool r.2]) := by
 refine PCall.introN uh (show 2 ≤ 43 by decide) ?_
 refine bg (s0 := ⟨tab [(0, vs1 a0), (1, vs2 a1)], ae [], 0⟩) (nr []) ?_
 refine ak ⟨tab [(2, ap a0), (3, eb a1), (4, .ptr 0 0 0)], ae [(0, .var [vh 0, vh 0])], 1⟩ ?_ ?_
 ·
  iterate 2 refine q1 _ ?_
  refine step (v := .ptr 0 0 0) (σ' := (ah (ae []) 0 (some (.var [vh 0, vh 0])))) (n' := 1) rfl ?_
  refine q1 _ ?_
  exact nR [0]
 refine aH ?_
 refine ak ⟨tab [(2, ap a0), (3, eb a1), (4, .ptr 0 0 0), (6, vi 0)], ae [(0, .var [vh 0, vh 0])], 1⟩ ?_ ?_
 ·
  refine q1 _ ?_
  exact nR [0]
 obtain ⟨q10, hl, h⟩ := aB h
 refine br ?_
 refine eC (cC (a0.Links.length : Int)) (fun (i1 : Int) (qq : Unit) => ⟨tab [(2, ap a0), (3, eb a1), (4, .ptr 0 0 0), (6, vi i1)], ae [(0, .var [vh 0, vh 0])], 1⟩) 0 (fun (qq : Unit) => ⟨tab [(4, .ptr 0 0 0)], ae [(0, .var [vh 0, vh 0])], 1⟩) bu cD (r := r) hl (by unfold bu; omega) ?_ ?_ ?_ ?_
 ·
  rintro i1 ⟨⟩ xr6 hinv4 hgo3 h
  show aG _ _ _ _ _ ⟨tab [(2, ap a0), (3, eb a1), (4, .ptr 0 0 0), (6, vi i1)], ae [(0, .var [vh 0, vh 0])], 1⟩
  have hc5 : decide (i1 < (a0.Links.length : Int)) = true := decide_eq_true hgo3
  refine aH ?_
  refine ak ⟨tab [(2, ap a0), (3, eb a1), (4, .ptr 0 0 0), (6, vi i1), (10, vi (a0.Links.length : Int)), (11, vb (decide (i1 < (a0.Links.length : Int))))], ae [(0, .var [vh 0, vh 0])], 1⟩ ?_ ?_
  ·
   iterate 3 refine q1 _ ?_
   refine step (v := vi (a0.Links.length : Int)) (bR (xs := a0.Links) (e := (bF eapi_Port)) rfl) ?_
   refine q1 _ ?_
   exact nR [0]
  refine cB 10 rfl fun hB2 => ?_
  refine bb (t := decide (i1 < (a0.Links.length : Int))) rfl hc5 ?_
  refine bf ?_
  refine aH ?_
  refine br ?_
  refine aH ?_
  obtain ⟨x7, hx7, h⟩ := aB h
  refine ak ⟨tab [(2, ap a0), (3, eb a1), (4, .ptr 0 0 0), (6, vi i1), (21, vb (x7.a0 == a1))], ae [(0, .var [vh 0, vh 0])], 1⟩ ?_ ?_
  ·
   iterate 3 refine q1 _ ?_
   refine step (v := .d (.cptr (some 4) (bF eapi_Port x7) 0)) (bX (xs := a0.Links) (e := (bF eapi_Port)) hx7 rfl rfl) ?_
   iterate 3 refine q1 _ ?_
   refine step (v := vb (x7.a0 == a1)) (ls (neg := false) rfl rfl (lZ x7.a0 a1)) ?_
   exact nR [0]
  by_cases hc8 : (x7.a0 == a1) = true
  ·
   replace h := bo hc8 h
   refine bb (t := (x7.a0 == a1)) rfl hc8 ?_
   refine ak ⟨tab [(4, .ptr 0 0 0), (5, vb true)], ae [(0, .var [vh x7.a1.Sw, vh x7.a1.Pt])], 1⟩ ?_ ?_
   ·
    iterate 3 refine q1 _ ?_
    refine step (v := .d (.cptr (some 4) (bF eapi_Port x7) 0)) (bX (xs := a0.Links) (e := (bF eapi_Port)) hx7 rfl rfl) ?_
    iterate 2 refine q1 _ ?_
    refine step (v := V.undef) (σ' := (ah (ae [(0, .var [vh 0, vh 0])]) 0 (some (.var [vh x7.a1.Sw, vh x7.a1.Pt])))) (n' := 1) rfl ?_
    refine q1 _ ?_
    exact nR [0]
   obtain ⟨r9, kr9, hr⟩ := dO (o := some (x7.a1, true)) (g := Br.ret) h
   subst hr
   have h := kr9
   have hh := aC h
   subst hh
   refine bA ?_
   refine And.intro (fun hn => nomatch hn) ?_
   intro hq
   have hq := hq.symm
   subst hq
   show FQ _ _ _ _
   exact dQ (.inr rfl) (lA (ds := [.int .u16 x7.a1.Sw, .int .u16 x7.a1.Pt]) rfl rfl (show 2 ≤ 2 by decide) rfl (bh (v := vb true) rfl rfl)) (RV.d (RV.d trivial))
  ·
   replace h := bp hc8 h
   refine bd (t := (x7.a0 == a1)) rfl hc8 ?_
   refine bf ?_
   refine ak ⟨tab [(2, ap a0), (3, eb a1), (4, .ptr 0 0 0), (6, vi i1), (35, vb (x7.a1 == a1))], ae [(0, .var [vh 0, vh 0])], 1⟩ ?_ ?_
   ·
    iterate 3 refine q1 _ ?_
    refine step (v := .d (.cptr (some 4) (bF eapi_Port x7) 0)) (bX (xs := a0.Links) (e := (bF eapi_Port)) hx7 rfl rfl) ?_
    iterate 3 refine q1 _ ?_
    refine step (v := vb (x7.a1 == a1)) (ls (neg := false) rfl rfl (lZ x7.a1 a1)) ?_
    exact nR [0]
   by_cases hc9 : (x7.a1 == a1) = true
   ·
    replace h := bo hc9 h
    refine bb (t := (x7.a1 == a1)) rfl hc9 ?_
    refine ak ⟨tab [(4, .ptr 0 0 0), (5, vb true)], ae [(0, .var [vh x7.a0.Sw, vh x7.a0.Pt])], 1⟩ ?_ ?_
    ·
     iterate 3 refine q1 _ ?_
     refine step (v := .d (.cptr (some 4) (bF eapi_Port x7) 0)) (bX (xs := a0.Links) (e := (bF eapi_Port)) hx7 rfl rfl) ?_
     iterate 2 refine q1 _ ?_
     refine step (v := V.undef) (σ' := (ah (ae [(0, .var [vh 0, vh 0])]) 0 (some (.var [vh x7.a0.Sw, vh x7.a0.Pt])))) (n' := 1) rfl ?_
     refine q1 _ ?_
     exact nR [0]
    obtain ⟨r10, kr10, hr⟩ := dO (o := some (x7.a0, true)) (g := Br.ret) h
    subst hr
    have h := kr10
    have hh := aC h
    subst hh
    refine bA ?_
    refine And.intro (fun hn => nomatch hn) ?_
    intro hq
    have hq := hq.symm
    subst hq
    show FQ _ _ _ _
    exact dQ (.inr rfl) (lA (ds := [.int .u16 x7.a0.Sw, .int .u16 x7.a0.Pt]) rfl rfl (show 2 ≤ 2 by decide) rfl (bh (v := vb true) rfl rfl)) (RV.d (RV.d trivial))
   ·
    replace h := bp hc9 h
    refine bd (t := (x7.a1 == a1)) rfl hc9 ?_
    refine bf ?_
    have hh := aC h
    subst hh
    refine bO ⟨tab [(2, ap a0), (3, eb a1), (4, .ptr 0 0 0), (6, vi (i1 + 1))], ae [(0, .var [vh 0, vh 0])], 1⟩ ?_ ?_
    ·
     refine q1 _ ?_
     refine step (v := vi (i1 + 1)) (cx (cz hinv4 hgo3 hB2) rfl rfl) ?_
     refine q1 _ ?_
     exact nR [0]
    exact And.intro rfl rfl
 ·
  rintro i1 ⟨⟩ hinv4 hgo3
  show aG _ _ _ _ _ ⟨tab [(2, ap a0), (3, eb a1), (4, .ptr 0 0 0), (6, vi i1)], ae [(0, .var [vh 0, vh 0])], 1⟩
  have hc5 : ¬ (decide (i1 < (a0.Links.length : Int)) = true) := fun hq => hgo3 (of_decide_eq_true hq)
  refine aH ?_
  refine ak ⟨tab [(2, ap a0), (3, eb a1), (4, .ptr 0 0 0), (6, vi i1), (11, vb (decide (i1 < (a0.Links.length : Int))))], ae [(0, .var [vh 0, vh 0])], 1⟩ ?_ ?_
  ·
   iterate 3 refine q1 _ ?_
   refine step (v := vi (a0.Links.length : Int)) (bR (xs := a0.Links) (e := (bF eapi_Port)) rfl) ?_
   refine q1 _ ?_
   exact nR [0]
  refine bd (t := decide (i1 < (a0.Links.length : Int))) rfl hc5 ?_
  refine bg (s0 := ⟨tab [(4, .ptr 0 0 0)], ae [(0, .var [vh 0, vh 0])], 1⟩) (nr [0]) ?_
  refine ce ?_
  exact And.intro rfl rfl
 ·
  intro r' hq
  subst hq
  exact aC h
 rintro ⟨⟩ rfl
 refine ak ⟨tab [(4, .ptr 0 0 0), (5, vb false)], ae [(0, .var [vh 0, vh 0])], 1⟩ ?_ ?_
 ·
  refine step (v := vs2 (api_Port.mk 0 0)) (fu (ds := [.int .u16 0, .int .u16 0]) rfl) ?_
  refine step (v := V.undef) (σ' := (ah (ae [(0, .var [vh 0, vh 0])]) 0 (some (.var [vh 0, vh 0])))) (n' := 1) rfl ?_
  refine q1 _ ?_
  exact nR [0]
 have hh := aC h
 subst hh
 refine bA ?_
 show FQ _ _ _ _
 exact dQ (.inr rfl) (lA (ds := [.int .u16 0, .int .u16 0]) rfl rfl (show 2 ≤ 2 by decide) rfl (bh (v := vb false) rfl rfl)) (RV.d (RV.d trivial))
end Go.AM
