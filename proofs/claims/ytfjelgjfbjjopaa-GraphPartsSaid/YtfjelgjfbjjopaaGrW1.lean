import Derived.Test.YtfjelgjfbjjopaaGrE
set_option linter.unusedVariables false
set_option linter.unusedSimpArgs false
namespace Go.AM
open Go Go.RowKit Go.Proofs
attribute [local irreducible] aK ct
set_option maxHeartbeats 2000000
theorem vp {a0 : (List Int)} {a1 : Int} {r : Int} (h : jt a0 a1 = some r) : PCall Try.prog 81 [eL none (D.int .u16) a0, .int .u16 a1] (.int .i64 r) := by
 refine PCall.introN tN (show 2 ≤ 19 by decide) ?_
 refine aW (s0 := ⟨tab [(0, dz a0), (1, vh a1)], ac [], 0⟩) (nr []) ?_
 refine ak ⟨tab [(0, dz a0), (1, vh a1)], ac [], 0⟩ ?_ ?_
 ·
  refine q1 _ ?_
  exact nR []
 refine aE ?_
 refine ak ⟨tab [(0, dz a0), (1, vh a1), (7, vi (a0.length : Int)), (8, vi 0)], ac [], 0⟩ ?_ ?_
 ·
  refine q1 _ ?_
  refine step (v := vi (a0.length : Int)) (bH (xs := a0) (e := (D.int .u16)) rfl) ?_
  refine q1 _ ?_
  exact nR []
 obtain ⟨q9, hl, h⟩ := ap h
 refine be ?_
 refine eJ (cg (a0.length : Int)) (fun (i1 : Int) (qq : Unit) => ⟨tab [(0, dz a0), (1, vh a1), (7, vi (a0.length : Int)), (8, vi i1)], ac [], 0⟩) 0 (fun (qq : Unit) => ⟨tab [], ac [], 0⟩) bg ck (r := r) hl (by unfold bg; omega) ?_ ?_ ?_ ?_
 ·
  rintro i1 ⟨⟩ xr6 hinv4 hgo3 h
  show aF _ _ _ _ _ ⟨tab [(0, dz a0), (1, vh a1), (7, vi (a0.length : Int)), (8, vi i1)], ac [], 0⟩
  have hc5 : decide (i1 < (a0.length : Int)) = true := decide_eq_true hgo3
  refine ak ⟨tab [(0, dz a0), (1, vh a1), (7, vi (a0.length : Int)), (8, vi i1), (9, vb (decide (i1 < (a0.length : Int))))], ac [], 0⟩ ?_ ?_
  ·
   refine q1 _ ?_
   exact nR []
  refine cf 7 rfl fun hB2 => ?_
  refine aE ?_
  refine aZ (t := decide (i1 < (a0.length : Int))) rfl hc5 ?_
  refine ba ?_
  refine aE ?_
  refine be ?_
  refine ak ⟨tab [(0, dz a0), (1, vh a1), (5, vi i1), (7, vi (a0.length : Int)), (8, vi i1)], ac [], 0⟩ ?_ ?_
  ·
   iterate 2 refine q1 _ ?_
   exact nR []
  obtain ⟨x7, hx7, h⟩ := ap h
  refine ak ⟨tab [(0, dz a0), (1, vh a1), (5, vi i1), (7, vi (a0.length : Int)), (8, vi i1), (16, vb (a1 == x7))], ac [], 0⟩ ?_ ?_
  ·
   iterate 3 refine q1 _ ?_
   refine step (v := .d (.cptr none (.int .u16 x7) 0)) (bZ (xs := a0) (e := (D.int .u16)) hx7 rfl rfl) ?_
   iterate 2 refine q1 _ ?_
   exact nR []
  by_cases hc8 : (a1 == x7) = true
  ·
   replace h := bp hc8 h
   refine aZ (t := (a1 == x7)) rfl hc8 ?_
   refine ak ⟨tab [(4, vi i1)], ac [], 0⟩ ?_ ?_
   ·
    iterate 2 refine q1 _ ?_
    exact nR []
   obtain ⟨r9, kr9, hr⟩ := dU (o := some i1) (g := Br.ret) h
   subst hr
   have h := kr9
   have hh := aB h
   subst hh
   refine bB ?_
   refine And.intro (fun hn => nomatch hn) ?_
   intro hq
   have hq := hq.symm
   subst hq
   show FQ _ _ _ _
   exact bR (.inr rfl) (bn (v := vi i1) rfl rfl) (RV.d trivial)
  ·
   replace h := bq hc8 h
   refine a8 (t := (a1 == x7)) rfl hc8 ?_
   refine ba ?_
   have hh := aB h
   subst hh
   refine bw ⟨tab [(0, dz a0), (1, vh a1), (7, vi (a0.length : Int)), (8, vi (i1 + 1))], ac [], 0⟩ ?_ ?_
   ·
    refine step (v := vi (i1 + 1)) (cd (ce hinv4 hgo3 hB2) rfl rfl) ?_
    refine q1 _ ?_
    exact nR []
   exact And.intro rfl rfl
 ·
  rintro i1 ⟨⟩ hinv4 hgo3
  show aF _ _ _ _ _ ⟨tab [(0, dz a0), (1, vh a1), (7, vi (a0.length : Int)), (8, vi i1)], ac [], 0⟩
  have hc5 : ¬ (decide (i1 < (a0.length : Int)) = true) := fun hq => hgo3 (of_decide_eq_true hq)
  refine ak ⟨tab [(0, dz a0), (1, vh a1), (7, vi (a0.length : Int)), (8, vi i1), (9, vb (decide (i1 < (a0.length : Int))))], ac [], 0⟩ ?_ ?_
  ·
   refine q1 _ ?_
   exact nR []
  refine aE ?_
  refine a8 (t := decide (i1 < (a0.length : Int))) rfl hc5 ?_
  refine aW (s0 := ⟨tab [], ac [], 0⟩) (nr []) ?_
  refine bQ ?_
  exact And.intro rfl rfl
 ·
  intro r' hq
  subst hq
  exact aB h
 rintro ⟨⟩ rfl
 refine ak ⟨tab [(4, vi (-1))], ac [], 0⟩ ?_ ?_
 ·
  refine q1 _ ?_
  exact nR []
 have hh := aB h
 subst hh
 refine bB ?_
 show FQ _ _ _ _
 exact bR (.inr rfl) (bn (v := vi (-1)) rfl rfl) (RV.d trivial)
theorem kE {a0 : api_Topo} {a1 : Int} {r : (Int × Bool)} (h : f7 a0 a1 = some r) : PCall Try.prog 61 [eapi_Topo a0, .int .u16 a1] (.tup [.int .i64 r.1, .bool r.2]) := by
 refine PCall.introN tP (show 2 ≤ 15 by decide) ?_
 refine aW (s0 := ⟨tab [(0, vs1 a0), (1, vh a1)], ac [], 0⟩) (nr []) ?_
 refine ak ⟨tab [(1, vh a1), (2, am a0)], ac [], 0⟩ ?_ ?_
 ·
  iterate 3 refine q1 _ ?_
  exact nR []
 obtain ⟨r1, hr1, h⟩ := ap h
 refine ak ⟨tab [(6, vi r1)], ac [], 0⟩ ?_ ?_
 ·
  iterate 3 refine q1 _ ?_
  refine bz (r := .int .i64 r1) (aL (aL aS.nil')) (vp hr1) ?_
  refine q1 _ ?_
  exact nR []
 refine ak ⟨tab [(4, vi (bO r1 0)), (5, vb (decide (r1 ≥ 0)))], ac [], 0⟩ ?_ ?_
 ·
  iterate 6 refine q1 _ ?_
  exact nR []
 have hh := aB h
 subst hh
 refine bB ?_
 show FQ _ _ _ _
 exact eZ (.inr rfl) (bn (v := vi (bO r1 0)) rfl (bn (v := vb (decide (r1 ≥ 0))) rfl rfl)) (RV.d (RV.d trivial))
theorem vq {a0 : (List Int)} {r : (List Int)} (h : iC a0 = some r) : dS Try.prog 80 [.loc 0 0 a0.length] (ac [(0, .lst true none (List.map (D.int .i64) a0))]) 1 (.loc 0 0 r.length) (ac [(0, .lst true none (List.map (D.int .i64) r))]) 1 := by
 refine dS.introN (bl := [(0, .lst true none (List.map (D.int .i64) a0))]) (bl' := [(0, .lst true none (List.map (D.int .i64) r))]) tT (show 1 ≤ 61 by decide) rfl ?_
 refine aW (s0 := ⟨tab [(0, .loc 0 0 a0.length)], ac [(0, .lst true none (List.map (D.int .i64) a0))], 1⟩) (nr [0]) ?_
 refine ak ⟨tab [(0, .loc 0 0 a0.length)], ac [(0, .lst true none (List.map (D.int .i64) a0))], 1⟩ ?_ ?_
 ·
  refine q1 _ ?_
  exact nR [0]
 refine aE ?_
 refine ak ⟨tab [(0, .loc 0 0 a0.length), (8, vb (decide ((a0.length : Int) < 2)))], ac [(0, .lst true none (List.map (D.int .i64) a0))], 1⟩ ?_ ?_
 ·
  iterate 3 refine q1 _ ?_
  exact nR [0]
 by_cases hc1 : decide ((a0.length : Int) < 2) = true
 ·
  replace h := bp hc1 h
  refine aZ (t := decide ((a0.length : Int) < 2)) rfl hc1 ?_
  refine ak ⟨tab [(2, .loc 0 0 a0.length)], ac [(0, .lst true none (List.map (D.int .i64) a0))], 1⟩ ?_ ?_
  ·
   iterate 2 refine q1 _ ?_
   exact nR [0]
  have hh := aB h
  subst hh
  refine bB ?_
  exact ⟨.inr rfl, _, rfl, rfl, gK.sub ⟨rfl, trivial⟩, rfl⟩
 ·
  replace h := bq hc1 h
  refine a8 (t := decide ((a0.length : Int) < 2)) rfl hc1 ?_
  refine ba ?_
  refine aE ?_
  refine ak ⟨tab [(0, .loc 0 0 a0.length), (3, vi 1)], ac [(0, .lst true none (List.map (D.int .i64) a0))], 1⟩ ?_ ?_
  ·
   refine q1 _ ?_
   exact nR [0]
  obtain ⟨q34, hl, h⟩ := ap h
  refine be ?_
  refine eJ (cg (a0.length : Int)) (fun (i2 : Int) (qq : Unit) => ⟨tab [(0, .loc 0 0 a0.length), (3, vi i2)], ac [(0, .lst true none (List.map (D.int .i64) a0))], 1⟩) 0 (fun (qq : Unit) => ⟨tab [(0, .loc 0 0 a0.length)], ac [(0, .lst true none (List.map (D.int .i64) a0))], 1⟩) bg ck (r := r) hl (by unfold bg; omega) ?_ ?_ ?_ ?_
  ·
   rintro i2 ⟨⟩ xr7 hinv5 hgo4 h
   show aF _ _ _ _ _ ⟨tab [(0, .loc 0 0 a0.length), (3, vi i2)], ac [(0, .lst true none (List.map (D.int .i64) a0))], 1⟩
   have hc6 : decide (i2 < (a0.length : Int)) = true := decide_eq_true hgo4
   refine aE ?_
   refine ak ⟨tab [(0, .loc 0 0 a0.length), (3, vi i2), (12, vi (a0.length : Int)), (13, vb (decide (i2 < (a0.length : Int))))], ac [(0, .lst true none (List.map (D.int .i64) a0))], 1⟩ ?_ ?_
   ·
    iterate 4 refine q1 _ ?_
    exact nR [0]
   refine cf 12 rfl fun hB3 => ?_
   refine aZ (t := decide (i2 < (a0.length : Int))) rfl hc6 ?_
   refine ba ?_
   refine aE ?_
   refine be ?_
   obtain ⟨x8, hx8, h⟩ := ap h
   obtain ⟨x9, hx9, h⟩ := ap h
   refine ak ⟨tab [(0, .loc 0 0 a0.length), (3, vi i2), (25, vb (x8 == x9))], ac [(0, .lst true none (List.map (D.int .i64) a0))], 1⟩ ?_ ?_
   ·
    iterate 2 refine q1 _ ?_
    refine step (v := .ptr 0 i2.toNat 0) (de (xs := a0) (e := (D.int .i64)) hx8 rfl rfl rfl rfl) ?_
    refine step (v := vi x8) (eX (xs := a0) (e := (D.int .i64)) hx8 rfl rfl rfl) ?_
    iterate 3 refine q1 _ ?_
    refine step (v := .ptr 0 (IntKind.i64.wrap (i2 - 1)).toNat 0) (de (xs := a0) (e := (D.int .i64)) hx9 rfl rfl rfl rfl) ?_
    refine step (v := vi x9) (eX (xs := a0) (e := (D.int .i64)) hx9 rfl rfl rfl) ?_
    refine q1 _ ?_
    exact nR [0]
   by_cases hc10 : (x8 == x9) = true
   ·
    replace h := bp hc10 h
    refine aZ (t := (x8 == x9)) rfl hc10 ?_
    obtain ⟨l11, hl11, h⟩ := ap h
    refine ak ⟨tab [(0, .loc 0 0 a0.length), (3, vi i2), (4, .loc 0 i2.toNat ((a0.length : Int).toNat - i2.toNat))], ac [(0, .lst true none (List.map (D.int .i64) a0))], 1⟩ ?_ ?_
    ·
     iterate 2 refine q1 _ ?_
     refine step (v := .loc 0 i2.toNat ((a0.length : Int).toNat - i2.toNat)) (oV (xs := a0) (e := (D.int .i64)) hl11 rfl rfl rfl ⟨_, rfl⟩ rfl) ?_
     refine q1 _ ?_
     exact nR [0]
    refine aE ?_
    refine ak ⟨tab [(0, .loc 0 0 a0.length), (3, vi i2), (4, .loc 0 i2.toNat ((a0.length : Int).toNat - i2.toNat)), (5, vi 1)], ac [(0, .lst true none (List.map (D.int .i64) a0))], 1⟩ ?_ ?_
    ·
     refine q1 _ ?_
     exact nR [0]
    obtain ⟨q33, hl, h⟩ := ap h
    obtain ⟨z30, z31⟩ := q33
    refine be ?_
    refine dc (cg (l11.length : Int)) (fun (i14 : Int) (qq : ((List Int) × Int)) => ⟨tab [(0, .loc 0 0 qq.1.length), (3, vi qq.2), (4, .loc 0 i2.toNat ((a0.length : Int).toNat - i2.toNat)), (5, vi i14)], ac [(0, .lst true none (List.map (D.int .i64) qq.1))], 1⟩) 2 (fun (qq : ((List Int) × Int)) => ⟨tab [(0, .loc 0 0 qq.1.length), (3, vi qq.2)], ac [(0, .lst true none (List.map (D.int .i64) qq.1))], 1⟩) bg ck hl (by unfold bg; omega) ?_ ?_ ?_
    ·
     rintro i14 ⟨l12, i13⟩ xr19 hinv17 hgo16 h
     show aF _ _ _ _ _ ⟨tab [(0, .loc 0 0 l12.length), (3, vi i13), (4, .loc 0 i2.toNat ((a0.length : Int).toNat - i2.toNat)), (5, vi i14)], ac [(0, .lst true none (List.map (D.int .i64) l12))], 1⟩
     have hc18 : decide (i14 < (l11.length : Int)) = true := decide_eq_true hgo16
     refine aE ?_
     refine ak ⟨tab [(0, .loc 0 0 l12.length), (3, vi i13), (4, .loc 0 i2.toNat ((a0.length : Int).toNat - i2.toNat)), (5, vi i14), (31, vi (l11.length : Int)), (32, vb (decide (i14 < (l11.length : Int))))], ac [(0, .lst true none (List.map (D.int .i64) l12))], 1⟩ ?_ ?_
     ·
      iterate 2 refine q1 _ ?_
      refine step (v := vi (l11.length : Int)) (oX (lo := i2) (hi := (a0.length : Int)) rfl hl11) ?_
      refine q1 _ ?_
      exact nR [0]
     refine cf 31 rfl fun hB15 => ?_
     refine aZ (t := decide (i14 < (l11.length : Int))) rfl hc18 ?_
     refine ba ?_
     obtain ⟨q29, hv, h⟩ := ap h
     obtain ⟨l27, y28⟩ := q29
     refine eV ⟨tab [(0, .loc 0 0 l27.length), (3, vi y28), (4, .loc 0 i2.toNat ((a0.length : Int).toNat - i2.toNat)), (5, vi i14)], ac [(0, .lst true none (List.map (D.int .i64) l27))], 1⟩ ?_ ?_
     ·
      replace h := hv
      refine be ?_
      obtain ⟨x20, hx20, h⟩ := ap h
      obtain ⟨x21, hx21, h⟩ := ap h
      obtain ⟨x22, hx22, h⟩ := ap h
      obtain ⟨x23, hx23, h⟩ := ap h
      refine ak ⟨tab [(0, .loc 0 0 l12.length), (3, vi i13), (4, .loc 0 i2.toNat ((a0.length : Int).toNat - i2.toNat)), (5, vi i14), (44, vb (x21 != x23))], ac [(0, .lst true none (List.map (D.int .i64) l12))], 1⟩ ?_ ?_
      ·
       iterate 2 refine q1 _ ?_
       refine step (v := .ptr 0 (i2 + i14).toNat 0) (mI (xs := l12) (e := (D.int .i64)) hx20 rfl rfl rfl) ?_
       refine step (v := vi x21) (eX (xs := l12) (e := (D.int .i64)) hx21 rfl rfl rfl) ?_
       iterate 3 refine q1 _ ?_
       refine step (v := .ptr 0 (i2 + (IntKind.i64.wrap (i14 - 1))).toNat 0) (mI (xs := l12) (e := (D.int .i64)) hx22 rfl rfl rfl) ?_
       refine step (v := vi x23) (eX (xs := l12) (e := (D.int .i64)) hx23 rfl rfl rfl) ?_
       refine q1 _ ?_
       exact nR [0]
      by_cases hc24 : (x21 != x23) = true
      ·
       replace h := bp hc24 h
       refine aZ (t := (x21 != x23)) rfl hc24 ?_
       obtain ⟨x25, hx25, h⟩ := ap h
       obtain ⟨l26, hl26, h⟩ := ap h
       refine ak ⟨tab [(0, .loc 0 0 l26.length), (3, vi i13), (4, .loc 0 i2.toNat ((a0.length : Int).toNat - i2.toNat)), (5, vi i14)], ac [(0, .lst true none (List.map (D.int .i64) l26))], 1⟩ ?_ ?_
       ·
        iterate 4 refine q1 _ ?_
        refine step (v := .ptr 0 (i2 + i14).toNat 0) (mI (xs := l12) (e := (D.int .i64)) hx20 rfl rfl rfl) ?_
        refine step (v := vi x21) (eX (xs := l12) (e := (D.int .i64)) hx21 rfl rfl rfl) ?_
        refine step (v := .ptr 0 i13.toNat 0) (de (xs := l12) (e := (D.int .i64)) hx25 rfl rfl rfl rfl) ?_
        refine step (v := V.undef) (σ' := (aj (ac [(0, .lst true none (List.map (D.int .i64) l12))]) 0 (some (.lst true none (List.map (D.int .i64) l26))))) (n' := 1) (eY (e := (D.int .i64)) (v' := x21) hl26 rfl rfl rfl rfl rfl) ?_
        exact aK.nil' (nm [0] ⟨.le (id := 0) (eW hl26).symm (show 0 < 1 by decide), .d _, .lc 0, .d _, trivial⟩ ⟨⟨show 0 < 1 by decide, _, rfl, .lst _ _ _⟩, trivial⟩)
       have hh := aB h
       obtain ⟨he0, ht0⟩ := Prod.mk.inj hh
       subst he0
       subst ht0
       refine bw ⟨tab [(0, .loc 0 0 l26.length), (3, vi (IntKind.i64.wrap (i13 + 1))), (4, .loc 0 i2.toNat ((a0.length : Int).toNat - i2.toNat)), (5, vi i14)], ac [(0, .lst true none (List.map (D.int .i64) l26))], 1⟩ ?_ ?_
       ·
        iterate 3 refine q1 _ ?_
        exact nR [0]
       exact And.intro rfl rfl
      ·
       replace h := bq hc24 h
       refine a8 (t := (x21 != x23)) rfl hc24 ?_
       have hh := aB h
       obtain ⟨he0, ht0⟩ := Prod.mk.inj hh
       subst he0
       subst ht0
       refine aW (s0 := ⟨tab [(0, .loc 0 0 l12.length), (3, vi i13), (4, .loc 0 i2.toNat ((a0.length : Int).toNat - i2.toNat)), (5, vi i14)], ac [(0, .lst true none (List.map (D.int .i64) l12))], 1⟩) (nr [0]) ?_
       refine ba ?_
       exact And.intro rfl rfl
     have hh := aB h
     subst hh
     refine bw ⟨tab [(0, .loc 0 0 l27.length), (3, vi y28), (4, .loc 0 i2.toNat ((a0.length : Int).toNat - i2.toNat)), (5, vi (i14 + 1))], ac [(0, .lst true none (List.map (D.int .i64) l27))], 1⟩ ?_ ?_
     ·
      refine q1 _ ?_
      refine step (v := vi (i14 + 1)) (cd (ce hinv17 hgo16 hB15) rfl rfl) ?_
      refine q1 _ ?_
      exact nR [0]
     exact And.intro rfl rfl
    ·
     rintro i14 ⟨l12, i13⟩ hinv17 hgo16
     show aF _ _ _ _ _ ⟨tab [(0, .loc 0 0 l12.length), (3, vi i13), (4, .loc 0 i2.toNat ((a0.length : Int).toNat - i2.toNat)), (5, vi i14)], ac [(0, .lst true none (List.map (D.int .i64) l12))], 1⟩
     have hc18 : ¬ (decide (i14 < (l11.length : Int)) = true) := fun hq => hgo16 (of_decide_eq_true hq)
     refine aE ?_
     refine ak ⟨tab [(0, .loc 0 0 l12.length), (3, vi i13), (4, .loc 0 i2.toNat ((a0.length : Int).toNat - i2.toNat)), (5, vi i14), (32, vb (decide (i14 < (l11.length : Int))))], ac [(0, .lst true none (List.map (D.int .i64) l12))], 1⟩ ?_ ?_
     ·
      iterate 2 refine q1 _ ?_
      refine step (v := vi (l11.length : Int)) (oX (lo := i2) (hi := (a0.length : Int)) rfl hl11) ?_
      refine q1 _ ?_
      exact nR [0]
     refine a8 (t := decide (i14 < (l11.length : Int))) rfl hc18 ?_
     refine aW (s0 := ⟨tab [(0, .loc 0 0 l12.length), (3, vi i13)], ac [(0, .lst true none (List.map (D.int .i64) l12))], 1⟩) (nr [0]) ?_
     refine bQ ?_
     exact And.intro rfl rfl
    obtain ⟨l32, hl32, h⟩ := ap h
    refine ak ⟨tab [(0, .loc 0 0 z30.length), (3, vi z31)], ac [(0, .lst true none (List.map (D.int .i64) (z30.take z31.toNat)))], 1⟩ ?_ ?_
    ·
     iterate 2 refine q1 _ ?_
     refine step (v := .loc 0 z31.toNat ((z30.length : Int).toNat - z31.toNat)) (oV (xs := z30) (e := (D.int .i64)) hl32 rfl rfl rfl ⟨_, rfl⟩ rfl) ?_
     refine step (v := .d (.tup [])) (σ' := (aj (ac [(0, .lst true none (List.map (D.int .i64) z30))]) 0 (some (.lst true none (List.map (D.int .i64) (z30.take z31.toNat)))))) (n' := 1) (rW (xs := z30) (e := (D.int .i64)) rfl rfl (by have := lZ hl32; omega)) ?_
     exact nR [0]
    refine ak ⟨tab [(2, .loc 0 0 ((z30.take z31.toNat).length))], ac [(0, .lst true none (List.map (D.int .i64) (z30.take z31.toNat)))], 1⟩ ?_ ?_
    ·
     iterate 2 refine q1 _ ?_
     refine step (v := .loc 0 0 ((z30.take z31.toNat).length)) (rX (xs := z30) (e := (D.int .i64)) hl32 rfl rfl rfl rfl ⟨_, rfl⟩) ?_
     refine q1 _ ?_
     exact nR [0]
    obtain ⟨r33, kr33, hr⟩ := dU (o := some (z30.take z31.toNat)) (g := Br.ret) h
    subst hr
    have h := kr33
    have hh := aB h
    subst hh
    refine bB ?_
    refine And.intro (fun hn => nomatch hn) ?_
    intro hq
    have hq := hq.symm
    subst hq
    exact ⟨.inr rfl, _, rfl, rfl, gK.sub ⟨rfl, trivial⟩, rfl⟩
   ·
    replace h := bq hc10 h
    refine a8 (t := (x8 == x9)) rfl hc10 ?_
    refine ba ?_
    have hh := aB h
    subst hh
    refine bw ⟨tab [(0, .loc 0 0 a0.length), (3, vi (i2 + 1))], ac [(0, .lst true none (List.map (D.int .i64) a0))], 1⟩ ?_ ?_
    ·
     refine q1 _ ?_
     refine step (v := vi (i2 + 1)) (cd (ce hinv5 hgo4 hB3) rfl rfl) ?_
     refine q1 _ ?_
     exact nR [0]
    exact And.intro rfl rfl
  ·
   rintro i2 ⟨⟩ hinv5 hgo4
   show aF _ _ _ _ _ ⟨tab [(0, .loc 0 0 a0.length), (3, vi i2)], ac [(0, .lst true none (List.map (D.int .i64) a0))], 1⟩
   have hc6 : ¬ (decide (i2 < (a0.length : Int)) = true) := fun hq => hgo4 (of_decide_eq_true hq)
   refine aE ?_
   refine ak ⟨tab [(0, .loc 0 0 a0.length), (3, vi i2), (13, vb (decide (i2 < (a0.length : Int))))], ac [(0, .lst true none (List.map (D.int .i64) a0))], 1⟩ ?_ ?_
   ·
    iterate 4 refine q1 _ ?_
    exact nR [0]
   refine a8 (t := decide (i2 < (a0.length : Int))) rfl hc6 ?_
   refine aW (s0 := ⟨tab [(0, .loc 0 0 a0.length)], ac [(0, .lst true none (List.map (D.int .i64) a0))], 1⟩) (nr [0]) ?_
   refine bQ ?_
   exact And.intro rfl rfl
  ·
   intro r' hq
   subst hq
   exact aB h
  rintro ⟨⟩ rfl
  refine ak ⟨tab [(2, .loc 0 0 a0.length)], ac [(0, .lst true none (List.map (D.int .i64) a0))], 1⟩ ?_ ?_
  ·
   iterate 2 refine q1 _ ?_
   exact nR [0]
  have hh := aB h
  subst hh
  refine bB ?_
  exact ⟨.inr rfl, _, rfl, rfl, gK.sub ⟨rfl, trivial⟩, rfl⟩
def oG (g : List (List Int)) : au := f4 [(0, .var (bX 2 g))] 2 g
def iz (g : List (List Int)) (cs : List V) : au := f4 [(0, .var (bX 2 g)), (1, .var cs)] 2 g
theorem f5 {g : List (List Int)} {i : Nat} {l : List Int} (h : g[i]? = some l) : oG g (2 + i) = some (.lst true none (l.map (D.int .i64))) := jp h
theorem d7 {g : List (List Int)} {T : Nat → V} {n : Nat} {l : List (Nat × V)} (hT : TN id (2 + g.length) T l) : bu 0 ⟨T, oG g, n⟩ ⟨tab l, oG g, 2 + g.length⟩ :=
 pD (by omega) hT (by intro p hp; simp at hp; subst hp; show 0 < 2; decide) ⟨⟨by show 0 < _; omega, _, rfl, .locs rfl rfl⟩, trivial⟩
theorem vr {g : List (List Int)} {T : Nat → V} {n : Nat} {l : List (Nat × V)} {cs : List V} {σ : au} (h0 : σ 0 = some (.var (bX 2 g))) (h1 : σ n = some (.var cs)) (hcs : BN (fun id => if id = 1 then n else id) (2 + g.length) (.var cs) (.var cs)) (hin : ∀ i l, g[i]? = some l → σ (2 + i) = some (.lst true none (l.map (D.int .i64))))
 (hn : n = 2 + g.length) (hT : TN (fun id => if id = 1 then n else id) (2 + g.length) T l) : bu 0 ⟨T, σ, n + 1⟩ ⟨tab l, iz g cs, 2 + g.length⟩ := by
 refine bu.fam (fun id => if id = 1 then n else id) (fun id h => by omega) (fun x y hx hy e => ?_) (by omega) hT (by intro p hp; simp at hp; rcases hp with rfl | rfl; (show 0 < 2; decide); (show 1 < 2; decide)) ⟨⟨by show 0 < _; omega, _, h0, .locs ?_ rfl⟩, ⟨by show 1 < _; omega, _, h1, hcs⟩, trivial⟩ (fun i l h => ?_)
 ·
  split at e <;> split at e <;> omega
 ·
  unfold bX fc
  congr 1; funext i l
  have : ¬ (2 + i = 1) := by omega
  simp only [id, this, if_false]
 ·
  have : ¬ (2 + i = 1) := by omega
  simp only [this, if_false]; exact hin i l h
theorem kF {T : Nat → V} {σ : au} {n : Nat} {x : AX} {g : List (List Int)} {j : Nat} {l : List Int} {cs : List V} (hx : aC T x = .ptr 0 j 0) (h0 : σ 0 = some (.var cs)) (hg : cs[j]? = some (.loc (2 + j) 0 l.length)) : ay (.load none x) (aC T) σ n = some (.loc (2 + j) 0 l.length, σ, n) := by
 simp only [ay, hx, co, h0, Nat.add_zero, dP, hg, Option.map_some]
theorem pF {T : Nat → V} {σ : au} {n : Nat} {x y : AX} {id : Nat} {la la2 : List Int} {b : Int} {m : Bool} (hx : aC T x = .loc id 0 la.length) (hy : aC T y = .d (.vec none [.int .i64 b])) (hid : σ id = some (.lst true none (la.map (D.int .i64)))) (hl : cJ la [b] = some la2) :
 ay (.append none x y m) (aC T) σ n = some (.loc n 0 la2.length, aj (aj σ id none) n (some (.lst true none (la2.map (D.int .i64)))), n + 1) := by
 unfold cJ at hl
 split at hl
 ·
  rename_i hle
  cases hl
  have e1 : dG σ none (.d (.vec none [D.int .i64 b])) = some [D.int .i64 b] := by simp [dG, dF, bT, cW]
  simp only [ay, c7, hx, hy, e1, hid]
  rw [if_pos ⟨trivial, by simp, by simpa [dE] using hle⟩]
  simp
 ·
  cases hl
theorem mL {T : Nat → V} {σ : au} {n : Nat} {a x : AX} {j id len : Nat} {cs : List V} (ha : aC T a = .ptr 0 j 0) (hx : aC T x = .loc id 0 len) (h0 : σ 0 = some (.var cs)) (hj : j < cs.length) : ay (.store none a x) (aC T) σ n = some (V.undef, aj σ 0 (some (.var (cs.set j (.loc id 0 len)))), n) := by
 have e1 : dp σ none (.ptr 0 j 0) (.loc id 0 len) = some (aj σ 0 (some (.var (cs.set j (.loc id 0 len))))) := by
  unfold dp
  simp only [h0]
  rw [if_pos ⟨rfl, rfl, by show j + 0 + 1 ≤ _; omega⟩]
  have : cs.take (j + 0) ++ (V.loc id 0 len).cells ++ cs.drop (j + 0 + ag none) = cs.set j (.loc id 0 len) := tD cs j _ hj
  rw [this]
 simp [ay, ha, hx, e1]
theorem jq {α : Type} {l : List α} {i : Int} {x : α} (h : aQ l i = some x) : 0 ≤ i ∧ l[i.toNat]? = some x ∧ i.toNat < l.length := by
 unfold aQ at h
 split at h
 ·
  exact ⟨by assumption, h, (List.getElem?_eq_some_iff.1 h).1⟩
 ·
  cases h
theorem mM {α : Type} {l l2 : List α} {i : Int} {x : α} (h : b4 l i x = some l2) : l2 = l.set i.toNat x ∧ i.toNat < l.length := by
 unfold b4 at h
 split at h
 ·
  split at h
  ·
   cases h; exact ⟨rfl, by assumption⟩
  ·
   cases h
 ·
  cases h
theorem pG {g : List (List Int)} {T : Nat → V} {n m : Nat} {l : List (Nat × V)} {σ : au} {j : Nat} {r : List Int} (hj : j < g.length) (hm : m = 2 + j ∨ 2 + g.length ≤ m) (h0 : σ 0 = some (.var ((bX 2 g).set j (.loc m 0 r.length)))) (h1 : σ m = some (.lst true none (r.map (D.int .i64)))) (hin : ∀ i l, i ≠ j → g[i]? = some l → σ (2 + i) = some (.lst true none (l.map (D.int .i64))))
 (hT : TN (fun id => if id = 2 + j then m else id) (2 + (g.set j r).length) T l) : bu 0 ⟨T, σ, n⟩ ⟨tab l, oG (g.set j r), 2 + (g.set j r).length⟩ := by
 have hlen : (g.set j r).length = g.length := by simp
 refine bu.fam (fun id => if id = 2 + j then m else id) (fun id h => by omega) (fun x y hx hy e => ?_) (by omega) hT (by intro p hp; simp at hp; subst hp; show 0 < 2; decide) ⟨⟨by show 0 < _; omega, _, by simpa [show ¬ (0 = 2 + j) by omega] using h0, .locs (tC hj) rfl⟩, trivial⟩ (fun i l h => ?_)
 ·
  rw [hlen] at hx hy
  split at e <;> split at e <;> omega
 ·
  rw [List.getElem?_set] at h
  by_cases e : j = i
  ·
   subst e
   rw [if_pos rfl, if_pos hj] at h
   cases h
   simpa using h1
  ·
   rw [if_neg e] at h
   have : ¬ (2 + i = 2 + j) := by omega
   simp only [this, if_false]
   exact hin i l (Ne.symm e) h
theorem vt {g : List (List Int)} {T : Nat → V} {n m : Nat} {l : List (Nat × V)} {σ : au} {j k : Nat} {r q : List Int} (hj : j < g.length) (hk : k < g.length) (hjk : j ≠ k) (hm : m = 2 + g.length) (h0 : σ 0 = some (.var (((bX 2 g).set j (.loc m 0 r.length)).set k (.loc (m + 1) 0 q.length)))) (h1 : σ m = some (.lst true none (r.map (D.int .i64)))) (h2 : σ (m + 1) = some (.lst true none (q.map (D.int .i64))))
 (hin : ∀ i l, i ≠ j → i ≠ k → g[i]? = some l → σ (2 + i) = some (.lst true none (l.map (D.int .i64))))
 (hT : TN (fun id => if id = 2 + j then m else if id = 2 + k then m + 1 else id) (2 + ((g.set j r).set k q).length) T l) : bu 0 ⟨T, σ, n⟩ ⟨tab l, oG ((g.set j r).set k q), 2 + ((g.set j r).set k q).length⟩ := by
 have hlen : ((g.set j r).set k q).length = g.length := by simp
 refine bu.fam (fun id => if id = 2 + j then m else if id = 2 + k then m + 1 else id) (fun id h => by omega) (fun x y hx hy e => ?_) (by omega) hT (by intro p hp; simp at hp; subst hp; show 0 < 2; decide) ⟨⟨by show 0 < _; omega, _, by simpa [show ¬ (0 = 2 + j) by omega, show ¬ (0 = 2 + k) by omega] using h0, .locs ?_ rfl⟩, trivial⟩ (fun i l h => ?_)
 ·
  rw [hlen] at hx hy
  split at e <;> split at e <;> (try split at e) <;> (try split at e) <;> omega
 ·
  apply List.ext_getElem?
  intro i
  rw [mJ, List.getElem?_set, List.getElem?_set, List.getElem?_set, List.getElem?_set, List.length_set, List.length_set, fH]
  by_cases e : k = i
  ·
   subst e
   have e1 : ¬ (k = j) := fun h => hjk h.symm
   simp [hk, e1]
  ·
   rw [if_neg e, if_neg e]
   by_cases e2 : j = i
   ·
    subst e2; simp [hj]
   ·
    have e3 : ¬ (2 + i = 2 + j) := by omega
    have e4 : ¬ (2 + i = 2 + k) := by omega
    rw [if_neg e2, if_neg e2, fG, if_neg e3, if_neg e4]
 ·
  rw [List.getElem?_set, List.getElem?_set, List.length_set] at h
  by_cases e : k = i
  ·
   subst e
   rw [if_pos rfl, if_pos hk] at h
   cases h
   have e1 : ¬ (k = j) := fun h => hjk h.symm
   simpa [e1] using h2
  ·
   rw [if_neg e] at h
   by_cases e2 : j = i
   ·
    subst e2
    rw [if_pos rfl, if_pos hj] at h
    cases h
    simpa using h1
   ·
    rw [if_neg e2] at h
    have e3 : ¬ (2 + i = 2 + j) := by omega
    have e4 : ¬ (2 + i = 2 + k) := by omega
    simp only [e3, e4, if_false]
    exact hin i l (Ne.symm e2) (Ne.symm e) h
theorem VN.l0 {ρ : Nat → Nat} {n0 a b : Nat} (h : a = b) (h0 : ρ 0 = 0) (hn : 0 < n0) : VN ρ n0 (.loc 0 0 a) (.loc 0 0 b) := by
 subst h
 have := VN.loc (ρ := ρ) 0 0 a hn
 rwa [h0] at this
def vv : bb :=
 (.seq (.ops false [
  ⟨some 21, .bin .lss (.t 20) (.t 19), none⟩])
  (.seq (.cond (.t 21)
   (.skip)
   (.exit 0))
  (.seq (.block 1 (.seq (.ops false [
   ⟨some 22, .mov (.t 20), none⟩,
   ⟨some 23, .iaddr (some 4) (.t 18) (.t 20), none⟩,
   ⟨some 24, .load (some 4) (.t 23), none⟩,
   ⟨some 7, .alloc [.int .u16 0, .int .u16 0, .int .u16 0, .int .u16 0], none⟩,
   ⟨some 6, .mov (.t 22), none⟩,
   ⟨none, .store (some 4) (.t 7) (.t 24), none⟩])
   (.seq (.ops false [
    ⟨some 26, .ldI (some 3) (.t 2), none⟩,
    ⟨some 27, .iaddrA 2 (some 2) (.t 7) (.c (.int .i64 0)), none⟩,
    ⟨some 28, .faddr 0 (.t 27), none⟩,
    ⟨some 29, .load none (.t 28), none⟩,
    ⟨some 30, .call false 61 [(.t 26), (.t 29)], none⟩,
    ⟨some 25, .mov (.t 30), none⟩,
    ⟨some 31, .extract (.t 25) 0, none⟩,
    ⟨some 32, .extract (.t 25) 1, none⟩,
    ⟨some 8, .mov (.t 31), none⟩,
    ⟨some 9, .mov (.t 32), none⟩])
   (.seq (.ops false [
    ⟨some 34, .ldI (some 3) (.t 2), none⟩,
    ⟨some 35, .iaddrA 2 (some 2) (.t 7) (.c (.int .i64 1)), none⟩,
    ⟨some 36, .faddr 0 (.t 35), none⟩,
    ⟨some 37, .load none (.t 36), none⟩,
    ⟨some 38, .call false 61 [(.t 34), (.t 37)], none⟩,
    ⟨some 33, .mov (.t 38), none⟩,
    ⟨some 39, .extract (.t 33) 0, none⟩,
    ⟨some 40, .extract (.t 33) 1, none⟩,
    ⟨some 10, .mov (.t 39), none⟩,
    ⟨some 11, .mov (.t 40), none⟩])
   (.seq (.seq (.ops false [
    ⟨some 41, .mov (.t 9), none⟩,
    ⟨some 42, .un .not (.t 41), none⟩,
    ⟨some 43, .mov (.t 42), none⟩,
    ⟨some 44, .mov (.t 11), some (43, false)⟩,
    ⟨some 45, .un .not (.t 44), some (43, false)⟩,
    ⟨some 46, .pick (.t 43) (.c (.bool true)) (.t 45), none⟩,
    ⟨some 47, .mov (.t 46), none⟩,
    ⟨some 48, .mov (.t 8), some (47, false)⟩,
    ⟨some 49, .mov (.t 10), some (47, false)⟩,
    ⟨some 50, .bin .eql (.t 48) (.t 49), some (47, false)⟩,
    ⟨some 51, .pick (.t 47) (.c (.bool true)) (.t 50), none⟩,
    ⟨some 52, .mov (.t 51), none⟩,
    ⟨some 53, .mov (.t 6), some (52, false)⟩,
    ⟨some 54, .mov (.t 1), some (52, false)⟩,
    ⟨some 55, .bin .eql (.t 53) (.t 54), some (52, false)⟩,
    ⟨some 56, .pick (.t 52) (.c (.bool true)) (.t 55), none⟩])
    (.cond (.t 56)
    (.exit 1)
    (.skip)))
   (.opsS [(10, 13), (10, 14)] [
    ⟨some 57, .mov (.t 5), none⟩,
    ⟨some 58, .mov (.t 8), none⟩,
    ⟨some 59, .mov (.t 5), none⟩,
    ⟨some 60, .mov (.t 10), none⟩,
    ⟨some 61, .mov (.t 5), none⟩,
    ⟨some 62, .mov (.t 8), none⟩,
    ⟨some 63, .iaddr none (.t 61) (.t 62), none⟩,
    ⟨some 64, .load none (.t 63), none⟩,
    ⟨some 65, .mov (.t 10), none⟩,
    ⟨some 66, .bsliceI none [(.t 65)], none⟩,
    ⟨some 67, .append none (.t 64) (.t 66) false, none⟩,
    ⟨some 68, .mov (.t 5), none⟩,
    ⟨some 69, .mov (.t 10), none⟩,
    ⟨some 70, .iaddr none (.t 68) (.t 69), none⟩,
    ⟨some 71, .load none (.t 70), none⟩,
    ⟨some 72, .mov (.t 8), none⟩,
    ⟨some 73, .bsliceI none [(.t 72)], none⟩,
    ⟨some 74, .append none (.t 71) (.t 73) false, none⟩,
    ⟨some 75, .iaddr none (.t 57) (.t 58), none⟩,
    ⟨none, .store none (.t 75) (.t 67), none⟩,
    ⟨some 76, .iaddr none (.t 59) (.t 60), none⟩,
    ⟨none, .store none (.t 76) (.t 74), none⟩]))))))
  (.ops false [
   ⟨some 77, .bin .add (.t 20) (.c (.int .i64 1)), none⟩,
   ⟨some 20, .mov (.t 77), none⟩]))))
def vw : bb :=
 (.seq (.ops false [
  ⟨some 81, .bin .lss (.t 80) (.t 79), none⟩])
  (.seq (.cond (.t 81)
   (.skip)
   (.exit 2))
  (.seq (.block 3 (.seq (.ops false [
   ⟨some 82, .mov (.t 80), none⟩,
   ⟨some 12, .mov (.t 82), none⟩])
   (.seq (.ops false [
    ⟨some 83, .mov (.t 5), none⟩,
    ⟨some 84, .mov (.t 12), none⟩,
    ⟨some 85, .iaddr none (.t 83) (.t 84), none⟩,
    ⟨some 86, .load none (.t 85), none⟩,
    ⟨some 87, .call true 79 [(.t 86)], none⟩])
   (.ops false [
    ⟨some 88, .mov (.t 5), none⟩,
    ⟨some 89, .mov (.t 12), none⟩,
    ⟨some 90, .mov (.t 5), none⟩,
    ⟨some 91, .mov (.t 12), none⟩,
    ⟨some 92, .iaddr none (.t 90) (.t 91), none⟩,
    ⟨some 93, .load none (.t 92), none⟩,
    ⟨some 94, .call true 80 [(.t 93)], none⟩,
    ⟨some 95, .iaddr none (.t 88) (.t 89), none⟩,
    ⟨none, .store none (.t 95) (.t 94), none⟩]))))
  (.ops false [
   ⟨some 96, .bin .add (.t 80) (.c (.int .i64 1)), none⟩,
   ⟨some 80, .mov (.t 96), none⟩]))))
def vy : b7 := .mk 98
 (.seq (.ops false [
  ⟨some 2, .box (some 3) (.t 0) true, none⟩,
  ⟨some 4, .mov (.c (.vec none [])), none⟩])
  (.seq (.ops false [
   ⟨some 13, .faddr 0 (.t 2), none⟩,
   ⟨some 14, .ldI none (.t 13), none⟩,
   ⟨some 15, .len (.t 14), none⟩,
   ⟨some 16, .mkslV .nils (.t 15) (.t 15), none⟩,
   ⟨some 5, .mov (.t 16), none⟩])
  (.seq (.seq (.ops false [
   ⟨some 17, .faddr 1 (.t 2), none⟩,
   ⟨some 18, .ldI none (.t 17), none⟩,
   ⟨some 19, .len (.t 18), none⟩,
   ⟨some 20, .mov (.c (.int .i64 0)), none⟩])
   (.block 0 (.loop vv)))
  (.seq (.seq (.ops false [
   ⟨some 78, .mov (.t 5), none⟩,
   ⟨some 79, .len (.t 78), none⟩,
   ⟨some 80, .mov (.c (.int .i64 0)), none⟩])
   (.block 2 (.loop vw)))
  (.seq (.ops false [
   ⟨some 97, .mov (.t 5), none⟩,
   ⟨some 4, .mov (.t 97), none⟩])
  (.ret))))))
 [.t 4]
set_option maxRecDepth 100000 in
theorem vz : cb Try.prog 56 vy = true := by kernel_rfl
theorem gT {a0 : api_Topo} {a1 : Int} {r : (List (List Int))} (h : ff a0 a1 = some r) : PCall Try.prog 56 [eapi_Topo a0, .int .i64 a1] (eL none (eL none (D.int .i64)) r) := by
 refine PCall.introN vz (show 2 ≤ 98 by decide) ?_
 refine aW (s0 := ⟨tab [(0, vs1 a0), (1, vi a1)], ac [], 0⟩) (nr []) ?_
 refine ak ⟨tab [(1, vi a1), (2, am a0)], ac [], 0⟩ ?_ ?_
 ·
  iterate 2 refine q1 _ ?_
  exact nR []
 obtain ⟨g0, hg0, h⟩ := ap h
 have hg0' : 0 ≤ (a0.Switches.length : Int) ∧ (a0.Switches.length : Int) ≤ 4294967296 ∧ g0 = List.replicate a0.Switches.length [] := by
  unfold cT at hg0
  split at hg0
  ·
   rename_i hc; cases hg0; exact ⟨hc.1, hc.2, by simp⟩
  ·
   cases hg0
 obtain ⟨hn0, hn1, hg0e⟩ := hg0'
 have hgl : g0.length = a0.Switches.length := by rw [hg0e]; simp
 refine ak ⟨tab [(1, vi a1), (2, am a0), (5, .loc 0 0 g0.length)], oG g0, 2 + g0.length⟩ ?_ ?_
 ·
  iterate 2 refine q1 _ ?_
  refine step (v := vi (a0.Switches.length : Int)) (bH (xs := a0.Switches) (e := (D.int .u16)) rfl) ?_
  refine step (v := .loc 0 0 a0.Switches.length) (σ' := aj (ac []) 0 (some (.var (List.replicate a0.Switches.length (.d .nils))))) (n' := 1) (tp rfl rfl ⟨hn0, hn1⟩ (by simp) (by simp)) ?_
  refine q1 _ ?_
  refine aK.nil' (bu.trans (tA 2 (by show 1 ≤ 2; decide) (o := 0) (k := a0.Switches.length) (by simp [aj]) (by show 0 < 1; decide)) ?_)
  refine bu.fam id (fun _ _ => rfl) (fun x y _ _ e => e) (by omega) ⟨.d _, .d _, .le (id := 0) hgl.symm (by show 0 < _; omega), trivial⟩ (by intro p hp; simp at hp; subst hp; show 0 < 2; decide) ⟨⟨by show 0 < _; omega, _, rfl, .locs (by rw [hg0e]; rfl) rfl⟩, trivial⟩ (fun i l hl => ?_)
  have hi : i < a0.Switches.length := by have := (List.getElem?_eq_some_iff.1 hl).1; omega
  rw [hg0e, List.getElem?_replicate, if_pos hi] at hl
  cases hl
  have e1 : ¬ (2 + i = 0) := by omega
  have e2 : 2 ≤ 2 + i ∧ 2 + i < 2 + a0.Switches.length := by omega
  simp only [id, e1, e2, if_true, if_false, and_self, List.map_nil]
 clear hg0 hg0e hgl
 refine aE ?_
 refine ak ⟨tab [(1, vi a1), (2, am a0), (5, .loc 0 0 g0.length), (18, bI a0.Links), (19, vi (a0.Links.length : Int)), (20, vi 0)], oG g0, 2 + g0.length⟩ ?_ ?_
 ·
  iterate 2 refine q1 _ ?_
  refine step (v := vi (a0.Links.length : Int)) (bH (xs := a0.Links) (e := (bW eapi_Port)) rfl) ?_
  refine q1 _ ?_
  exact aK.nil' (d7 ⟨.d _, .d _, .loc 0 _ _ (by omega), .d _, .d _, .d _, trivial⟩)
 obtain ⟨z1, hl, h⟩ := ap h
 refine be ?_
 refine dc (cg (a0.Links.length : Int)) (fun (i2 : Int) (g : List (List Int)) => ⟨tab [(1, vi a1), (2, am a0), (5, .loc 0 0 g.length), (18, bI a0.Links), (19, vi (a0.Links.length : Int)), (20, vi i2)], oG g, 2 + g.length⟩) 0 (fun (g : List (List Int)) => ⟨tab [(5, .loc 0 0 g.length)], oG g, 2 + g.length⟩) bg ck hl (by unfold bg; omega) ?_ ?_ ?_
 ·
  rintro i2 g g9 hinv hgo h
  show aF _ _ _ _ _ ⟨tab [(1, vi a1), (2, am a0), (5, .loc 0 0 g.length), (18, bI a0.Links), (19, vi (a0.Links.length : Int)), (20, vi i2)], oG g, 2 + g.length⟩
  have hc : decide (i2 < (a0.Links.length : Int)) = true := decide_eq_true hgo
  refine ak ⟨tab [(1, vi a1), (2, am a0), (5, .loc 0 0 g.length), (18, bI a0.Links), (19, vi (a0.Links.length : Int)), (20, vi i2), (21, vb (decide (i2 < (a0.Links.length : Int))))], oG g, 2 + g.length⟩ ?_ ?_
  ·
   refine q1 _ ?_
   exact aK.nil' (d7 ⟨.d _, .d _, .loc 0 _ _ (by omega), .d _, .d _, .d _, .d _, trivial⟩)
  refine cf 19 rfl fun hB3 => ?_
  refine aE ?_
  refine aZ (t := decide (i2 < (a0.Links.length : Int))) rfl hc ?_
  refine ba ?_
  refine eV ⟨tab [(1, vi a1), (2, am a0), (5, .loc 0 0 g9.length), (18, bI a0.Links), (19, vi (a0.Links.length : Int)), (20, vi i2)], oG g9, 2 + g9.length⟩ ?_ ?_
  ·
   refine be ?_
   obtain ⟨x8, hx8, h⟩ := ap h
   refine ak ⟨tab [(1, vi a1), (2, am a0), (5, .loc 0 0 g.length), (6, vi i2), (7, .ptr 1 0 0), (18, bI a0.Links), (19, vi (a0.Links.length : Int)), (20, vi i2)], iz g [vh x8.a0.Sw, vh x8.a0.Pt, vh x8.a1.Sw, vh x8.a1.Pt], 2 + g.length⟩ ?_ ?_
   ·
    refine q1 _ ?_
    refine step (v := .d (.cptr (some 4) (bW eapi_Port x8) 0)) (bZ (xs := a0.Links) (e := (bW eapi_Port)) hx8 rfl rfl) ?_
    refine q1 _ ?_
    refine step (v := .ptr (2 + g.length) 0 0) (σ' := (aj (oG g) (2 + g.length) (some (.var [vh 0, vh 0, vh 0, vh 0])))) (n' := 2 + g.length + 1) rfl ?_
    refine q1 _ ?_
    refine step (v := V.undef) (σ' := aj (aj (oG g) (2 + g.length) (some (.var [vh 0, vh 0, vh 0, vh 0]))) (2 + g.length) (some (.var [vh x8.a0.Sw, vh x8.a0.Pt, vh x8.a1.Sw, vh x8.a1.Pt]))) (n' := 2 + g.length + 1) ?_ ?_
    ·
     have e1 : dp (aj (oG g) (2 + g.length) (some (.var [vh 0, vh 0, vh 0, vh 0]))) (some 4) (.ptr (2 + g.length) 0 0) (.d (bW eapi_Port x8)) = some (aj (aj (oG g) (2 + g.length) (some (.var [vh 0, vh 0, vh 0, vh 0]))) (2 + g.length) (some (.var [vh x8.a0.Sw, vh x8.a0.Pt, vh x8.a1.Sw, vh x8.a1.Pt]))) := by
      unfold dp
      simp only [aM]
      rfl
     show (dp _ (some 4) (.ptr (2 + g.length) 0 0) (.d (bW eapi_Port x8))).map _ = _
     rw [e1]; rfl
    have f0 : ∀ id, id ≠ 2 + g.length → aj (aj (oG g) (2 + g.length) (some (.var [vh 0, vh 0, vh 0, vh 0]))) (2 + g.length) (some (.var [vh x8.a0.Sw, vh x8.a0.Pt, vh x8.a1.Sw, vh x8.a1.Pt])) id = oG g id := fun id hid => by rw [aH _ _ hid, aH _ _ hid]
    exact aK.nil' (vr ((f0 0 (by omega)).trans rfl) (aM _ _ _) (.vars ⟨.d _, .d _, .d _, .d _, trivial⟩) (fun i l hl => (f0 _ (by have := (List.getElem?_eq_some_iff.1 hl).1; omega)).trans (f5 hl)) rfl ⟨.d _, .d _, .loc 0 _ _ (by omega), .d _, .ptr 1 _ _ (by omega), .d _, .d _, .d _, trivial⟩)
   obtain ⟨r1, hr1, h⟩ := ap h
   have keep1 : ∀ {T : Nat → V} {n : Nat} {l : List (Nat × V)} {cs : List V}, BN id (2 + g.length) (.var cs) (.var cs) → TN id (2 + g.length) T l → bu 0 ⟨T, iz g cs, n⟩ ⟨tab l, iz g cs, 2 + g.length⟩ := fun hcs hT =>
    pD (by omega) hT (by intro p hp; simp at hp; rcases hp with rfl | rfl; (show 0 < 2; decide); (show 1 < 2; decide)) ⟨⟨by show 0 < _; omega, _, rfl, .locs rfl rfl⟩, ⟨by show 1 < _; omega, _, rfl, hcs⟩, trivial⟩
   have drop1 : ∀ {T : Nat → V} {n : Nat} {l : List (Nat × V)} {cs : List V}, TN id (2 + g.length) T l → bu 0 ⟨T, iz g cs, n⟩ ⟨tab l, oG g, 2 + g.length⟩ := fun hT =>
    bu.fam id (fun _ _ => rfl) (fun x y _ _ e => e) (by omega) hT (by intro p hp; simp at hp; subst hp; show 0 < 2; decide) ⟨⟨by show 0 < _; omega, _, rfl, .locs rfl rfl⟩, trivial⟩ (fun i l hl => jp hl)
   refine ak ⟨tab [(1, vi a1), (2, am a0), (5, .loc 0 0 g.length), (6, vi i2), (7, .ptr 1 0 0), (8, vi r1.1), (9, vb r1.2), (18, bI a0.Links), (19, vi (a0.Links.length : Int)), (20, vi i2)], iz g [vh x8.a0.Sw, vh x8.a0.Pt, vh x8.a1.Sw, vh x8.a1.Pt], 2 + g.length⟩ ?_ ?_
   ·
    iterate 4 refine q1 _ ?_
    refine bz (r := .tup [.int .i64 r1.1, .bool r1.2]) (aL (aL aS.nil')) (kE hr1) ?_
    iterate 5 refine q1 _ ?_
    exact aK.nil' (keep1 (.vars ⟨.d _, .d _, .d _, .d _, trivial⟩) ⟨.d _, .d _, .loc 0 _ _ (by omega), .d _, .ptr 1 _ _ (by omega), .d _, .d _, .d _, .d _, .d _, trivial⟩)
   obtain ⟨r2, hr2, h⟩ := ap h
   refine ak ⟨tab [(1, vi a1), (2, am a0), (5, .loc 0 0 g.length), (6, vi i2), (8, vi r1.1), (9, vb r1.2), (10, vi r2.1), (11, vb r2.2), (18, bI a0.Links), (19, vi (a0.Links.length : Int)), (20, vi i2)], oG g, 2 + g.length⟩ ?_ ?_
   ·
    iterate 4 refine q1 _ ?_
    refine bz (r := .tup [.int .i64 r2.1, .bool r2.2]) (aL (aL aS.nil')) (kE hr2) ?_
    iterate 5 refine q1 _ ?_
    exact aK.nil' (drop1 ⟨.d _, .d _, .loc 0 _ _ (by omega), .d _, .d _, .d _, .d _, .d _, .d _, .d _, .d _, trivial⟩)
   clear keep1 drop1
   refine aE ?_
   refine aE ?_
   have keepT : ∀ {T : Nat → V} {n : Nat}, (hT : TN id (2 + g.length) T [(1, vi a1), (2, am a0), (5, .loc 0 0 g.length), (8, vi r1.1), (10, vi r2.1), (18, bI a0.Links), (19, vi (a0.Links.length : Int)), (20, vi i2), (56, vb ((!r1.2) || ((!r2.2) || ((r1.1 == r2.1) || (i2 == a1)))))]) → aK Try.prog [] ⟨T, oG g, n⟩ (fun s' => bu 0 s' ⟨tab [(1, vi a1), (2, am a0), (5, .loc 0 0 g.length), (8, vi r1.1), (10, vi r2.1), (18, bI a0.Links), (19, vi (a0.Links.length : Int)), (20, vi i2), (56, vb ((!r1.2) || ((!r2.2) || ((r1.1 == r2.1) || (i2 == a1)))))], oG g, 2 + g.length⟩) := fun hT => aK.nil' (d7 hT)
   refine bw ⟨tab [(1, vi a1), (2, am a0), (5, .loc 0 0 g.length), (8, vi r1.1), (10, vi r2.1), (18, bI a0.Links), (19, vi (a0.Links.length : Int)), (20, vi i2), (56, vb ((!r1.2) || ((!r2.2) || ((r1.1 == r2.1) || (i2 == a1)))))], oG g, 2 + g.length⟩ ?_ ?_
   ·
    iterate 3 refine q1 _ ?_
    by_cases e1 : (!r1.2) = true
    ·
     iterate 2 refine qX (!r1.2) (by rw [e1]; decide) ?_
     refine step (v := vb true) (bv (b := !r1.2) rfl e1 rfl) ?_
     refine q1 _ ?_
     iterate 3 refine qX true (by decide) ?_
     refine step (v := vb true) (bv (b := true) rfl rfl rfl) ?_
     refine q1 _ ?_
     iterate 3 refine qX true (by decide) ?_
     refine step (v := vb true) (bv (b := true) rfl rfl rfl) ?_
     exact keepT ⟨.d _, .d _, .loc 0 _ _ (by omega), .d _, .d _, .d _, .d _, .d _, .eq (by rw [e1]; rfl), trivial⟩
    ·
     refine qG (!r1.2) (Bool.eq_false_iff.2 e1) ?_
     refine q1 _ ?_
     refine qG (!r1.2) (Bool.eq_false_iff.2 e1) ?_
     refine q1 _ ?_
     refine step (v := vb (!r2.2)) (bx (b := !r1.2) rfl e1 rfl) ?_
     refine q1 _ ?_
     have e1' : (!r1.2) = false := Bool.eq_false_iff.2 e1
     by_cases e2 : (!r2.2) = true
     ·
      iterate 3 refine qX (!r2.2) (by rw [e2]; decide) ?_
      refine step (v := vb true) (bv (b := !r2.2) rfl e2 rfl) ?_
      refine q1 _ ?_
      iterate 3 refine qX true (by decide) ?_
      refine step (v := vb true) (bv (b := true) rfl rfl rfl) ?_
      exact keepT ⟨.d _, .d _, .loc 0 _ _ (by omega), .d _, .d _, .d _, .d _, .d _, .eq (by rw [e1', e2]; rfl), trivial⟩
     ·
      have e2' : (!r2.2) = false := Bool.eq_false_iff.2 e2
      refine qG (!r2.2) e2' ?_
      refine q1 _ ?_
      refine qG (!r2.2) e2' ?_
      refine q1 _ ?_
      refine qG (!r2.2) e2' ?_
      refine q1 _ ?_
      refine step (v := vb (r1.1 == r2.1)) (bx (b := !r2.2) rfl e2 rfl) ?_
      refine q1 _ ?_
      by_cases e3 : (r1.1 == r2.1) = true
      ·
       iterate 3 refine qX (r1.1 == r2.1) (by rw [e3]; decide) ?_
       refine step (v := vb true) (bv (b := (r1.1 == r2.1)) rfl e3 rfl) ?_
       exact keepT ⟨.d _, .d _, .loc 0 _ _ (by omega), .d _, .d _, .d _, .d _, .d _, .eq (by rw [e1', e2', e3]; rfl), trivial⟩
      ·
       have e3' : (r1.1 == r2.1) = false := Bool.eq_false_iff.2 e3
       refine qG (r1.1 == r2.1) e3' ?_
       refine q1 _ ?_
       refine qG (r1.1 == r2.1) e3' ?_
       refine q1 _ ?_
       refine qG (r1.1 == r2.1) e3' ?_
       refine q1 _ ?_
       refine step (v := vb (i2 == a1)) (bx (b := (r1.1 == r2.1)) rfl e3 rfl) ?_
       exact keepT ⟨.d _, .d _, .loc 0 _ _ (by omega), .d _, .d _, .d _, .d _, .d _, .eq (by rw [e1', e2', e3']; rfl), trivial⟩
   clear keepT
   by_cases hcc : ((!r1.2) || ((!r2.2) || ((r1.1 == r2.1) || (i2 == a1)))) = true
   ·
    replace h := bp hcc h
    cases h
    refine aZ rfl hcc ?_
    refine aW (s0 := ⟨tab [(1, vi a1), (2, am a0), (5, .loc 0 0 g.length), (18, bI a0.Links), (19, vi (a0.Links.length : Int)), (20, vi i2)], oG g, 2 + g.length⟩) (d7 ⟨.d _, .d _, .loc 0 _ _ (by omega), .d _, .d _, .d _, trivial⟩) ?_
    refine bQ ?_
    exact And.intro rfl rfl
   ·
    replace h := bq hcc h
    have hne : r1.1 ≠ r2.1 := by
     intro e
     apply hcc
     have : (r1.1 == r2.1) = true := by simp [e]
     rw [this]; simp
    refine a8 rfl hcc ?_
    refine ba ?_
    obtain ⟨la, hla, h⟩ := ap h
    obtain ⟨la2, hla2, h⟩ := ap h
    obtain ⟨lb, hlb, h⟩ := ap h
    obtain ⟨lb2, hlb2, h⟩ := ap h
    obtain ⟨g2, hg2, h⟩ := ap h
    obtain ⟨p1, p2, p3⟩ := jq hla
    obtain ⟨q1', q2', q3'⟩ := jq hlb
    obtain ⟨hg2e, _⟩ := mM hg2
    obtain ⟨hg9e, _⟩ := mM h
    subst hg2e
    have hjk : r1.1.toNat ≠ r2.1.toNat := by omega
    generalize hn : 2 + g.length = n
    have hna : 2 + r1.1.toNat ≠ n := by omega
    have hnb : 2 + r2.1.toNat ≠ n := by omega
    have hab : 2 + r2.1.toNat ≠ 2 + r1.1.toNat := by omega
    obtain ⟨σ1, hσ1⟩ : ∃ σ1, σ1 = aj (aj (oG g) (2 + r1.1.toNat) none) n (some (.lst true none (la2.map (D.int .i64)))) := ⟨_, rfl⟩
    obtain ⟨σ2, hσ2⟩ : ∃ σ2, σ2 = aj (aj σ1 (2 + r2.1.toNat) none) (n + 1) (some (.lst true none (lb2.map (D.int .i64)))) := ⟨_, rfl⟩
    have z0 : oG g 0 = some (.var (bX 2 g)) := rfl
    have z1 : σ1 0 = some (.var (bX 2 g)) := by rw [hσ1, aH _ _ (by omega), aH _ _ (by omega)]; rfl
    have z2 : σ2 0 = some (.var (bX 2 g)) := by rw [hσ2, aH _ _ (by omega), aH _ _ (by omega)]; exact z1
    have zb : σ1 (2 + r2.1.toNat) = some (.lst true none (lb.map (D.int .i64))) := by rw [hσ1, aH _ _ hnb, aH _ _ hab]; exact f5 q2'
    obtain ⟨σ3, hσ3⟩ : ∃ σ3, σ3 = aj σ2 0 (some (.var ((bX 2 g).set r1.1.toNat (.loc n 0 la2.length)))) := ⟨_, rfl⟩
    obtain ⟨σ4, hσ4⟩ : ∃ σ4, σ4 = aj σ3 0 (some (.var (((bX 2 g).set r1.1.toNat (.loc n 0 la2.length)).set r2.1.toNat (.loc (n + 1) 0 lb2.length)))) := ⟨_, rfl⟩
    refine pA ⟨tab [(1, vi a1), (2, am a0), (5, .loc 0 0 g9.length), (18, bI a0.Links), (19, vi (a0.Links.length : Int)), (20, vi i2)], oG g9, 2 + g9.length⟩ ?_ (And.intro rfl rfl)
    iterate 6 refine cu (v := _) [] [] rfl rfl rfl ?_
    refine cu (v := .ptr 0 r1.1.toNat 0) [0] [] (gS (m := g.length) rfl z0 rfl ⟨p1, by omega⟩ rfl) rfl rfl ?_
    refine cu (v := .loc (2 + r1.1.toNat) 0 la.length) [0] [] (kF (g := g) rfl z0 (by rw [fG, p2]; rfl)) rfl rfl ?_
    iterate 2 refine cu (v := _) [] [] rfl rfl rfl ?_
    refine cu (v := .loc n 0 la2.length) (σ' := σ1) (n' := n + 1) [2 + r1.1.toNat] [2 + r1.1.toNat] (by rw [hσ1]; exact pF rfl rfl (f5 p2) hla2) rfl rfl ?_
    iterate 2 refine cu (v := _) [] [] rfl rfl rfl ?_
    refine cu (v := .ptr 0 r2.1.toNat 0) [0] [] (gS (m := g.length) rfl z1 rfl ⟨q1', by omega⟩ rfl) rfl rfl ?_
    refine cu (v := .loc (2 + r2.1.toNat) 0 lb.length) [0] [] (kF (g := g) rfl z1 (by rw [fG, q2']; rfl)) rfl rfl ?_
    iterate 2 refine cu (v := _) [] [] rfl rfl rfl ?_
    refine cu (v := .loc (n + 1) 0 lb2.length) (σ' := σ2) (n' := n + 1 + 1) [2 + r2.1.toNat] [2 + r2.1.toNat] (by rw [hσ2]; exact pF rfl rfl zb hlb2) rfl rfl ?_
    refine cu (v := .ptr 0 r1.1.toNat 0) [0] [] (gS (m := g.length) rfl z2 rfl ⟨p1, by omega⟩ rfl) rfl rfl ?_
    refine cu (v := V.undef) (σ' := σ3) (n' := n + 1 + 1) [0] [0] (by rw [hσ3]; exact mL rfl rfl z2 (by rw [fH]; exact p3)) rfl rfl ?_
    have z3 : σ3 0 = some (.var ((bX 2 g).set r1.1.toNat (.loc n 0 la2.length))) := by rw [hσ3, aM]
    refine cu (v := .ptr 0 r2.1.toNat 0) [0] [] (gS (m := g.length) rfl z3 rfl ⟨q1', by omega⟩ rfl) rfl rfl ?_
    refine cu (v := V.undef) (σ' := σ4) (n' := n + 1 + 1) [0] [0] (by rw [hσ4]; exact mL rfl rfl z3 (by rw [List.length_set, fH]; exact q3')) rfl rfl ?_
    refine ct.nil' ⟨?_, ?_⟩
    ·
     have b1 : ¬ (2 + r1.1.toNat = 0) := by omega
     have b2 : ¬ (n = 0) := by omega
     have b3 : ¬ (n ≤ 0) := by omega
     have b5 : 2 + r1.1.toNat < n + 1 := by omega
     simp [mG, mE, b1, b2, b3, b5]
    ·
     subst hg9e
     have hlen : ((g.set r1.1.toNat la2).set r2.1.toNat lb2).length = g.length := by simp
     refine vt p3 q3' hjk hn.symm (by rw [hσ4, aM]) ?_ ?_ (fun i l hi1 hi2 hl => ?_) ⟨.d _, .d _, .l0 hlen.symm (by show ite _ _ _ = 0; rw [if_neg (by omega), if_neg (by omega)]) (by omega), .d _, .d _, .d _, trivial⟩
     ·
      rw [hσ4, hσ3, aH _ _ (by omega), aH _ _ (by omega), hσ2, aH _ _ (by omega), aH _ _ (Ne.symm hnb), hσ1, aM]
     ·
      rw [hσ4, hσ3, aH _ _ (by omega), aH _ _ (by omega), hσ2, aM]
     ·
      have hil := (List.getElem?_eq_some_iff.1 hl).1
      rw [hσ4, hσ3, aH _ _ (by omega), aH _ _ (by omega), hσ2, aH _ _ (by omega), aH _ _ (by omega), hσ1, aH _ _ (by omega), aH _ _ (by omega)]
      exact f5 hl
  ·
   refine bw ⟨tab [(1, vi a1), (2, am a0), (5, .loc 0 0 g9.length), (18, bI a0.Links), (19, vi (a0.Links.length : Int)), (20, vi (i2 + 1))], oG g9, 2 + g9.length⟩ ?_ ?_
   ·
    refine step (v := vi (i2 + 1)) (cd (ce hinv hgo hB3) rfl rfl) ?_
    refine q1 _ ?_
    exact aK.nil' (d7 ⟨.d _, .d _, .loc 0 _ _ (by omega), .d _, .d _, .d _, trivial⟩)
   exact And.intro rfl rfl
 ·
  rintro i2 g hinv hgo
  show aF _ _ _ _ _ ⟨tab [(1, vi a1), (2, am a0), (5, .loc 0 0 g.length), (18, bI a0.Links), (19, vi (a0.Links.length : Int)), (20, vi i2)], oG g, 2 + g.length⟩
  have hc : ¬ (decide (i2 < (a0.Links.length : Int)) = true) := fun hq => hgo (of_decide_eq_true hq)
  refine ak ⟨tab [(5, .loc 0 0 g.length), (21, vb (decide (i2 < (a0.Links.length : Int))))], oG g, 2 + g.length⟩ ?_ ?_
  ·
   refine q1 _ ?_
   exact aK.nil' (d7 ⟨.loc 0 _ _ (by omega), .d _, trivial⟩)
  refine aE ?_
  refine a8 rfl hc ?_
  refine aW (s0 := ⟨tab [(5, .loc 0 0 g.length)], oG g, 2 + g.length⟩) (d7 ⟨.loc 0 _ _ (by omega), trivial⟩) ?_
  refine bQ ?_
  exact And.intro rfl rfl
 refine aE ?_
 refine ak ⟨tab [(5, .loc 0 0 z1.length), (79, vi (z1.length : Int)), (80, vi 0)], oG z1, 2 + z1.length⟩ ?_ ?_
 ·
  iterate 3 refine q1 _ ?_
  exact aK.nil' (d7 ⟨.loc 0 _ _ (by omega), .d _, .d _, trivial⟩)
 obtain ⟨z2, hl2, h⟩ := ap h
 have hh := aB h
 subst hh
 refine be ?_
 refine dc (cg (z1.length : Int)) (fun (i2 : Int) (g : List (List Int)) => ⟨tab [(5, .loc 0 0 g.length), (79, vi (z1.length : Int)), (80, vi i2)], oG g, 2 + g.length⟩) 2 (fun (g : List (List Int)) => ⟨tab [(5, .loc 0 0 g.length)], oG g, 2 + g.length⟩) bg ck hl2 (by unfold bg; omega) ?_ ?_ ?_
 ·
  rintro i2 g g9 hinv hgo h
  show aF _ _ _ _ _ ⟨tab [(5, .loc 0 0 g.length), (79, vi (z1.length : Int)), (80, vi i2)], oG g, 2 + g.length⟩
  have hc : decide (i2 < (z1.length : Int)) = true := decide_eq_true hgo
  refine ak ⟨tab [(5, .loc 0 0 g.length), (79, vi (z1.length : Int)), (80, vi i2), (81, vb (decide (i2 < (z1.length : Int))))], oG g, 2 + g.length⟩ ?_ ?_
  ·
   refine q1 _ ?_
   exact aK.nil' (d7 ⟨.loc 0 _ _ (by omega), .d _, .d _, .d _, trivial⟩)
  refine cf 79 rfl fun hB3 => ?_
  refine aE ?_
  refine aZ rfl hc ?_
  refine ba ?_
  refine eV ⟨tab [(5, .loc 0 0 g9.length), (79, vi (z1.length : Int)), (80, vi i2)], oG g9, 2 + g9.length⟩ ?_ ?_
  ·
   refine be ?_
   obtain ⟨l, hla, h⟩ := ap h
   split at h
   ·
    rename_i hll
    obtain ⟨r8, hr8, h⟩ := ap h
    obtain ⟨p1, p2, p3⟩ := jq hla
    obtain ⟨hg9e, _⟩ := mM h
    refine ak ⟨tab [(5, .loc 0 0 g.length), (12, vi i2), (79, vi (z1.length : Int)), (80, vi i2)], oG g, 2 + g.length⟩ ?_ ?_
    ·
     iterate 2 refine q1 _ ?_
     exact aK.nil' (d7 ⟨.loc 0 _ _ (by omega), .d _, .d _, .d _, trivial⟩)
    have hset1 : (g.set i2.toNat (cn l)).length = g.length := by simp
    have hs5 : (cn l).length = l.length := (gg l).length_eq
    have gs : (g.set i2.toNat (cn l))[i2.toNat]? = some (cn l) := by rw [List.getElem?_set_self p3]
    refine ak ⟨tab [(5, .loc 0 0 (g.set i2.toNat (cn l)).length), (12, vi i2), (79, vi (z1.length : Int)), (80, vi i2)], oG (g.set i2.toNat (cn l)), 2 + (g.set i2.toNat (cn l)).length⟩ ?_ ?_
    ·
     iterate 2 refine q1 _ ?_
     refine step (v := .ptr 0 i2.toNat 0) (gS (m := g.length) rfl (show oG g 0 = some (.var (bX 2 g)) from rfl) rfl ⟨p1, by omega⟩ rfl) ?_
     refine step (v := .loc (2 + i2.toNat) 0 l.length) (kF (g := g) rfl (show oG g 0 = some (.var (bX 2 g)) from rfl) (by rw [fG, p2]; rfl)) ?_
     refine lV (v := .d (.tup [])) (σ' := aj (aj (oG g) (2 + i2.toNat) none) (2 + i2.toNat) (some (.lst true none ((cn l).map (D.int .i64))))) (n' := 2 + g.length) (oS [2 + i2.toNat] (tI (by omega)) (show 1 ≤ 1 by decide) (by simp) (by intro q hq; simp at hq; omega) (o5 (show 0 < 1 by decide) o6) (cZ.c (.loc 0 _ _ (by show 0 < 1; decide)) cZ.nil0) (SN.c (by show 0 < 1; decide) (f5 p2) (.lst _ _ _) SN.nil0)) (Nat.le_refl _) ?_
     refine aK.nil' (pG (m := 2 + i2.toNat) p3 (.inl rfl) ?_ (aM _ _ _) (fun i l' hi hl' => ?_) ⟨.l0 hset1.symm (by show ite _ _ _ = 0; rw [if_neg (by omega)]) (by omega), .d _, .d _, .d _, trivial⟩)
     ·
      rw [aH _ _ (by omega), aH _ _ (by omega)]
      show some (aV.var (bX 2 g)) = _
      congr 2
      apply List.ext_getElem?
      intro i
      rw [List.getElem?_set, fH]
      by_cases e : i2.toNat = i
      ·
       subst e; rw [if_pos rfl, if_pos p3, fG, p2, hs5]; rfl
      ·
       rw [if_neg e]
     ·
      rw [aH _ _ (by omega), aH _ _ (by omega)]; exact f5 hl'
    have p3' : i2.toNat < (g.set i2.toNat (cn l)).length := by rw [hset1]; exact p3
    have hss : (g.set i2.toNat (cn l)).set i2.toNat r8 = g9 := by rw [hg9e, List.set_set]
    have hset2 : g9.length = (g.set i2.toNat (cn l)).length := by rw [← hss]; simp
    clear hg9e h hla p2 hset1
    generalize g.set i2.toNat (cn l) = g3 at *
    refine bw ⟨tab [(5, .loc 0 0 g9.length), (79, vi (z1.length : Int)), (80, vi i2)], oG g9, 2 + g9.length⟩ ?_ (And.intro rfl rfl)
    iterate 4 refine q1 _ ?_
    refine step (v := .ptr 0 i2.toNat 0) (gS (m := g3.length) rfl (show oG g3 0 = some (.var (bX 2 g3)) from rfl) rfl ⟨p1, by omega⟩ rfl) ?_
    refine step (v := .loc (2 + i2.toNat) 0 (cn l).length) (kF (g := g3) rfl (show oG g3 0 = some (.var (bX 2 g3)) from rfl) (by rw [fG, gs]; rfl)) ?_
    refine lV (v := .loc (2 + i2.toNat) 0 r8.length) (σ' := aj (aj (oG g3) (2 + i2.toNat) none) (2 + i2.toNat) (some (.lst true none (r8.map (D.int .i64))))) (n' := 2 + g3.length) (oS [2 + i2.toNat] (vq hr8) (show 1 ≤ 1 by decide) (by simp) (by intro q hq; simp at hq; omega) (o5 (show 0 < 1 by decide) o6) (cZ.c (.loc 0 _ _ (by show 0 < 1; decide)) cZ.nil0) (SN.c (by show 0 < 1; decide) (f5 gs) (.lst _ _ _) SN.nil0)) (Nat.le_refl _) ?_
    have y0 : aj (aj (oG g3) (2 + i2.toNat) none) (2 + i2.toNat) (some (.lst true none (r8.map (D.int .i64)))) 0 = some (.var (bX 2 g3)) := by rw [aH _ _ (by omega), aH _ _ (by omega)]; rfl
    refine step (v := .ptr 0 i2.toNat 0) (gS (m := g3.length) rfl y0 rfl ⟨p1, by omega⟩ rfl) ?_
    refine step (v := V.undef) (σ' := aj (aj (aj (oG g3) (2 + i2.toNat) none) (2 + i2.toNat) (some (.lst true none (r8.map (D.int .i64))))) 0 (some (.var ((bX 2 g3).set i2.toNat (.loc (2 + i2.toNat) 0 r8.length))))) (n' := 2 + g3.length) (mL rfl rfl y0 (by rw [fH]; exact p3')) ?_
    subst hss
    refine aK.nil' (pG (m := 2 + i2.toNat) p3' (.inl rfl) (aM _ _ _) ?_ (fun i l' hi hl' => ?_) ⟨.l0 hset2.symm (by show ite _ _ _ = 0; rw [if_neg (by omega)]) (by omega), .d _, .d _, trivial⟩)
    ·
     rw [aH _ _ (by omega), aM]
    ·
     rw [aH _ _ (by omega), aH _ _ (by omega), aH _ _ (by omega)]; exact f5 hl'
   ·
    cases h
  ·
   refine bw ⟨tab [(5, .loc 0 0 g9.length), (79, vi (z1.length : Int)), (80, vi (i2 + 1))], oG g9, 2 + g9.length⟩ ?_ ?_
   ·
    refine step (v := vi (i2 + 1)) (cd (ce hinv hgo hB3) rfl rfl) ?_
    refine q1 _ ?_
    exact aK.nil' (d7 ⟨.loc 0 _ _ (by omega), .d _, .d _, trivial⟩)
   exact And.intro rfl rfl
 ·
  rintro i2 g hinv hgo
  show aF _ _ _ _ _ ⟨tab [(5, .loc 0 0 g.length), (79, vi (z1.length : Int)), (80, vi i2)], oG g, 2 + g.length⟩
  have hc : ¬ (decide (i2 < (z1.length : Int)) = true) := fun hq => hgo (of_decide_eq_true hq)
  refine ak ⟨tab [(5, .loc 0 0 g.length), (81, vb (decide (i2 < (z1.length : Int))))], oG g, 2 + g.length⟩ ?_ ?_
  ·
   refine q1 _ ?_
   exact aK.nil' (d7 ⟨.loc 0 _ _ (by omega), .d _, trivial⟩)
  refine aE ?_
  refine a8 rfl hc ?_
  refine aW (s0 := ⟨tab [(5, .loc 0 0 g.length)], oG g, 2 + g.length⟩) (d7 ⟨.loc 0 _ _ (by omega), trivial⟩) ?_
  refine bQ ?_
  exact And.intro rfl rfl
 refine ak ⟨tab [(4, .loc 0 0 z2.length)], oG z2, 2 + z2.length⟩ ?_ ?_
 ·
  iterate 2 refine q1 _ ?_
  exact aK.nil' (d7 ⟨.loc 0 _ _ (by omega), trivial⟩)
 refine bB ?_
 show FQ _ _ _ _
 refine bR (.inr rfl) (bn (v := .loc 0 0 z2.length) rfl rfl) ?_
 refine tn (show oG z2 0 = some (.var (bX 2 z2)) from rfl) (by rw [fH]) tB ?_ (by trivial)
 rw [List.all_eq_true]
 intro d hd
 obtain ⟨l, _, rfl⟩ := List.mem_map.1 hd
 rfl
theorem iA {a0 : (List (List Int))} {a1 : Int} {r : Bool} (h : d8 a0 a1 = some r) : PCall Try.prog 57 [eL none (eL none (D.int .i64)) a0, .int .i64 a1] (.bool r) := by
 refine PCall.introN tV (show 2 ≤ 13 by decide) ?_
 refine aW (s0 := ⟨tab [(0, .d (eL none (eL none (D.int .i64)) a0)), (1, vi a1)], ac [], 0⟩) (nr []) ?_
 refine ak ⟨tab [(0, .d (eL none (eL none (D.int .i64)) a0)), (1, vi a1)], ac [], 0⟩ ?_ ?_
 ·
  refine q1 _ ?_
  exact nR []
 refine ak ⟨tab [(4, vb ((decide (a1 ≥ 0)) && (decide (a1 < (a0.length : Int)))))], ac [], 0⟩ ?_ ?_
 ·
  iterate 3 refine q1 _ ?_
  by_cases hg1 : decide (a1 ≥ 0) = true
  ·
   refine qG _ hg1 ?_
   refine q1 _ ?_
   refine qG _ hg1 ?_
   refine q1 _ ?_
   refine qG _ hg1 ?_
   refine step (v := vi (a0.length : Int)) (bH (xs := a0) (e := (eL none (D.int .i64))) rfl) ?_
   refine qG _ hg1 ?_
   refine q1 _ ?_
   refine step (v := vb (decide (a1 < (a0.length : Int)))) (bv (b := decide (a1 ≥ 0)) rfl hg1 rfl) ?_
   refine q1 _ ?_
   exact aK.nil' (nm [] ⟨.eq (by first | (simp [hg1]; done) | (simp_all; done) | grind), trivial⟩ trivial)
  ·
   iterate 4 refine qX _ hg1 ?_
   refine step (v := vb false) (bx (b := decide (a1 ≥ 0)) rfl hg1 rfl) ?_
   refine q1 _ ?_
   exact aK.nil' (nm [] ⟨.eq (by first | (simp [hg1]; done) | (simp_all; done) | grind), trivial⟩ trivial)
 have hh := aB h
 subst hh
 refine bB ?_
 show FQ _ _ _ _
 exact bR (.inr rfl) (bn (v := vb ((decide (a1 ≥ 0)) && (decide (a1 < (a0.length : Int))))) rfl rfl) (RV.d trivial)
@[reducible] def fS (g : List D) (d q : List Int) : au := ac [(0, .lst true none (List.map (D.int .i64) d)), (1, .lst false none (g ++ List.map (D.int .i64) q))]
theorem vA {T : Nat → V} {n : Nat} {x y : AX} {g : List D} {d q : List Int} {i : Int} {k : Int} (hx : aC T x = .loc 1 g.length q.length) (hy : aC T y = vi i) (h : aQ q i = some k) : ay (.iaddr none x y) (aC T) (fS g d q) n = some (.ptr 1 (g.length + i.toNat) 0, fS g d q, n) := by
 obtain ⟨h1, _, h3⟩ := jq h
 have hk : bT (fS g d q) (.loc 1 g.length q.length) = some none := rfl
 simp only [ay, hx, hy, hk]
 rw [if_pos ⟨trivial, h1, by omega⟩]
theorem vB {T : Nat → V} {n : Nat} {x : AX} {g : List D} {d q : List Int} {i : Int} {k : Int} (hx : aC T x = .ptr 1 (g.length + i.toNat) 0) (h : aQ q i = some k) : ay (.load none x) (aC T) (fS g d q) n = some (vi k, fS g d q, n) := by
 obtain ⟨h1, h2, h3⟩ := jq h
 have e : (g ++ List.map (D.int .i64) q)[g.length + i.toNat]? = some (.int .i64 k) := by
  rw [List.getElem?_append_right (by omega), Nat.add_sub_cancel_left, List.getElem?_map, h2]; rfl
 have e2 : co (fS g d q) none (.ptr 1 (g.length + i.toNat) 0) = some (vi k) := by
  show (match (g ++ List.map (D.int .i64) q)[g.length + i.toNat]? with | some d => (ey none d 0 none).map V.d | none => none) = _
  rw [e]; rfl
 simp [ay, hx, e2]
theorem vC {T : Nat → V} {n : Nat} {x : AX} {g : List D} {d q q2 : List Int} (hx : aC T x = .loc 1 g.length q.length) (h : cN q 1 (q.length : Int) = some q2) : ay (.slc none x (some (.c (.int .i64 1))) none) (aC T) (fS g d q) n = some (.loc 1 (g.length + 1) q2.length, fS g d q, n) := by
 unfold cN at h
 split at h
 ·
  rename_i hc
  cases h
  have hk : bT (fS g d q) (.loc 1 g.length q.length) = some none := rfl
  have hb : dq q.length ((some (AX.c (.int .i64 1))).map (aC T)) (Option.map (aC T) none) = some (1, q.length) := by
   have h1 : (1 : Int) ≤ q.length := by omega
   simp [dq, aC, eP, h1]
  simp only [ay, hx, hk, hb, if_true]
  have : List.length (List.take ((q.length : Int).toNat - Int.toNat 1) (List.drop (Int.toNat 1) q)) = q.length - 1 := by simp
  rw [this]
 ·
  cases h
theorem vD {q q2 : List Int} (h : cN q 1 (q.length : Int) = some q2) : ∃ x, q = x :: q2 := by
 unfold cN at h
 split at h
 ·
  rename_i hc
  cases h
  cases q with
  | nil => simp at hc
  | cons x q => exact ⟨x, by simp⟩
 ·
  cases h
def vE : bb :=
 (.seq (.ops false [
  ⟨some 17, .bin .lss (.t 16) (.t 15), none⟩])
  (.seq (.cond (.t 17)
   (.skip)
   (.exit 0))
  (.seq (.block 1 (.seq (.ops false [
   ⟨some 18, .mov (.t 16), none⟩,
   ⟨some 6, .mov (.t 18), none⟩])
   (.ops false [
    ⟨some 19, .mov (.t 5), none⟩,
    ⟨some 20, .mov (.t 6), none⟩,
    ⟨some 21, .iaddr none (.t 19) (.t 20), none⟩,
    ⟨none, .store none (.t 21) (.c (.int .i64 (-1))), none⟩])))
  (.ops false [
   ⟨some 22, .bin .add (.t 16) (.c (.int .i64 1)), none⟩,
   ⟨some 16, .mov (.t 22), none⟩]))))
def vF : bb :=
 (.seq (.ops false [
  ⟨some 47, .bin .lss (.t 46) (.t 45), none⟩])
  (.seq (.cond (.t 47)
   (.skip)
   (.exit 4))
  (.seq (.block 5 (.seq (.ops false [
   ⟨some 48, .iaddr none (.t 44) (.t 46), none⟩,
   ⟨some 49, .load none (.t 48), none⟩,
   ⟨some 10, .mov (.t 49), none⟩])
   (.seq (.ops false [
    ⟨some 50, .mov (.t 5), none⟩,
    ⟨some 51, .mov (.t 10), none⟩,
    ⟨some 52, .iaddr none (.t 50) (.t 51), none⟩,
    ⟨some 53, .load none (.t 52), none⟩,
    ⟨some 54, .bin .lss (.t 53) (.c (.int .i64 0)), none⟩])
   (.cond (.t 54)
   (.seq (.ops false [
    ⟨some 55, .mov (.t 5), none⟩,
    ⟨some 56, .mov (.t 10), none⟩,
    ⟨some 57, .mov (.t 5), none⟩,
    ⟨some 58, .mov (.t 8), none⟩,
    ⟨some 59, .iaddr none (.t 57) (.t 58), none⟩,
    ⟨some 60, .load none (.t 59), none⟩,
    ⟨some 61, .bin .add (.t 60) (.c (.int .i64 1)), none⟩,
    ⟨some 62, .iaddr none (.t 55) (.t 56), none⟩,
    ⟨none, .store none (.t 62) (.t 61), none⟩])
    (.ops false [
     ⟨some 63, .mov (.t 7), none⟩,
     ⟨some 64, .mov (.t 10), none⟩,
     ⟨some 65, .bsliceI none [(.t 64)], none⟩,
     ⟨some 66, .append none (.t 63) (.t 65) false, none⟩,
     ⟨some 7, .mov (.t 66), none⟩]))
   (.skip)))))
  (.ops false [
   ⟨some 67, .bin .add (.t 46) (.c (.int .i64 1)), none⟩,
   ⟨some 46, .mov (.t 67), none⟩]))))
def vG : bb :=
 (.seq (.seq (.ops false [
  ⟨some 33, .mov (.t 7), none⟩,
  ⟨some 34, .len (.t 33), none⟩,
  ⟨some 35, .bin .gtr (.t 34) (.c (.int .i64 0)), none⟩])
  (.cond (.t 35)
  (.skip)
  (.exit 2)))
  (.seq (.block 3 (.seq (.ops false [
   ⟨some 38, .mov (.t 7), none⟩,
   ⟨some 39, .iaddr none (.t 38) (.c (.int .i64 0)), none⟩,
   ⟨some 40, .load none (.t 39), none⟩,
   ⟨some 8, .mov (.t 40), none⟩])
   (.seq (.ops false [
    ⟨some 41, .mov (.t 0), none⟩,
    ⟨some 42, .mov (.t 8), none⟩,
    ⟨some 43, .iaddr none (.t 41) (.t 42), none⟩,
    ⟨some 44, .load none (.t 43), none⟩,
    ⟨some 45, .len (.t 44), none⟩,
    ⟨some 46, .mov (.c (.int .i64 0)), none⟩])
   (.block 4 (.loop vF)))))
  (.ops false [
   ⟨some 36, .mov (.t 7), none⟩,
   ⟨some 37, .slc none (.t 36) (some (.c (.int .i64 1))) none, none⟩,
   ⟨some 7, .mov (.t 37), none⟩])))
def vH : b7 := .mk 69
 (.seq (.ops false [
  ⟨some 4, .mov (.c (.vec none [])), none⟩])
  (.seq (.ops false [
   ⟨some 11, .mov (.t 0), none⟩,
   ⟨some 12, .len (.t 11), none⟩,
   ⟨some 13, .mkslice none (.int .i64 0) (.t 12) (.t 12), none⟩,
   ⟨some 5, .mov (.t 13), none⟩])
  (.seq (.seq (.ops false [
   ⟨some 14, .mov (.t 5), none⟩,
   ⟨some 15, .len (.t 14), none⟩,
   ⟨some 16, .mov (.c (.int .i64 0)), none⟩])
   (.block 0 (.loop vE)))
  (.seq (.seq (.ops false [
   ⟨some 23, .mov (.t 0), none⟩,
   ⟨some 24, .mov (.t 1), none⟩,
   ⟨some 25, .call false 57 [(.t 23), (.t 24)], none⟩,
   ⟨some 26, .un .not (.t 25), none⟩])
   (.cond (.t 26)
   (.seq (.ops false [
    ⟨some 27, .mov (.t 5), none⟩,
    ⟨some 4, .mov (.t 27), none⟩])
    (.ret))
   (.skip)))
  (.seq (.ops false [
   ⟨some 28, .mov (.t 5), none⟩,
   ⟨some 29, .mov (.t 1), none⟩,
   ⟨some 30, .iaddr none (.t 28) (.t 29), none⟩,
   ⟨none, .store none (.t 30) (.c (.int .i64 0)), none⟩])
  (.seq (.seq (.ops false [
   ⟨some 31, .mov (.t 1), none⟩,
   ⟨some 32, .bslice none [(.t 31)] false, none⟩,
   ⟨some 7, .mov (.t 32), none⟩])
   (.block 2 (.loop vG)))
  (.seq (.ops false [
   ⟨some 68, .mov (.t 5), none⟩,
   ⟨some 4, .mov (.t 68), none⟩])
  (.ret))))))))
 [.t 4]
set_option maxRecDepth 100000 in
theorem vI : cb Try.prog 58 vH = true := by kernel_rfl
theorem jr {a0 : (List (List Int))} {a1 : Int} {r : (List Int)} (h : fI a0 a1 = some r) : PCall Try.prog 58 [eL none (eL none (D.int .i64)) a0, .int .i64 a1] (eL none (D.int .i64) r) := by
 refine PCall.introN vI (show 2 ≤ 69 by decide) ?_
 refine aW (s0 := ⟨tab [(0, .d (eL none (eL none (D.int .i64)) a0)), (1, vi a1)], ac [], 0⟩) (nr []) ?_
 refine ak ⟨tab [(0, .d (eL none (eL none (D.int .i64)) a0)), (1, vi a1)], ac [], 0⟩ ?_ ?_
 ·
  refine q1 _ ?_
  exact nR []
 obtain ⟨l5, hl5, h⟩ := ap h
 refine ak ⟨tab [(0, .d (eL none (eL none (D.int .i64)) a0)), (1, vi a1), (5, .loc 0 0 l5.length)], ac [(0, .lst true none (List.map (D.int .i64) l5))], 1⟩ ?_ ?_
 ·
  refine q1 _ ?_
  refine step (v := vi (a0.length : Int)) (bH (xs := a0) (e := (eL none (D.int .i64))) rfl) ?_
  refine step (v := .loc 0 0 l5.length) (σ' := (aj (ac []) 0 (some (.lst true none (List.map (D.int .i64) l5))))) (n' := 1) (kg (e := (D.int .i64)) (z := 0) hl5 rfl rfl (kh hl5)) ?_
  refine q1 _ ?_
  exact nR [0]
 refine aE ?_
 refine ak ⟨tab [(0, .d (eL none (eL none (D.int .i64)) a0)), (1, vi a1), (5, .loc 0 0 l5.length), (15, vi (l5.length : Int)), (16, vi 0)], ac [(0, .lst true none (List.map (D.int .i64) l5))], 1⟩ ?_ ?_
 ·
  iterate 3 refine q1 _ ?_
  exact nR [0]
 obtain ⟨z15, hl, h⟩ := ap h
 refine be ?_
 refine dc (cg (l5.length : Int)) (fun (i7 : Int) (qq : (List Int)) => ⟨tab [(0, .d (eL none (eL none (D.int .i64)) a0)), (1, vi a1), (5, .loc 0 0 qq.length), (15, vi (l5.length : Int)), (16, vi i7)], ac [(0, .lst true none (List.map (D.int .i64) qq))], 1⟩) 0 (fun (qq : (List Int)) => ⟨tab [(0, .d (eL none (eL none (D.int .i64)) a0)), (1, vi a1), (5, .loc 0 0 qq.length)], ac [(0, .lst true none (List.map (D.int .i64) qq))], 1⟩) bg ck hl (by unfold bg; omega) ?_ ?_ ?_
 ·
  rintro i7 l6 xr12 hinv10 hgo9 h
  show aF _ _ _ _ _ ⟨tab [(0, .d (eL none (eL none (D.int .i64)) a0)), (1, vi a1), (5, .loc 0 0 l6.length), (15, vi (l5.length : Int)), (16, vi i7)], ac [(0, .lst true none (List.map (D.int .i64) l6))], 1⟩
  have hc11 : decide (i7 < (l5.length : Int)) = true := decide_eq_true hgo9
  refine ak ⟨tab [(0, .d (eL none (eL none (D.int .i64)) a0)), (1, vi a1), (5, .loc 0 0 l6.length), (15, vi (l5.length : Int)), (16, vi i7), (17, vb (decide (i7 < (l5.length : Int))))], ac [(0, .lst true none (List.map (D.int .i64) l6))], 1⟩ ?_ ?_
  ·
   refine q1 _ ?_
   exact nR [0]
  refine cf 15 rfl fun hB8 => ?_
  refine aE ?_
  refine aZ (t := decide (i7 < (l5.length : Int))) rfl hc11 ?_
  refine ba ?_
  refine aE ?_
  refine be ?_
  refine ak ⟨tab [(0, .d (eL none (eL none (D.int .i64)) a0)), (1, vi a1), (5, .loc 0 0 l6.length), (6, vi i7), (15, vi (l5.length : Int)), (16, vi i7)], ac [(0, .lst true none (List.map (D.int .i64) l6))], 1⟩ ?_ ?_
  ·
   iterate 2 refine q1 _ ?_
   exact nR [0]
  obtain ⟨x13, hx13, h⟩ := ap h
  obtain ⟨l14, hl14, h⟩ := ap h
  refine bw ⟨tab [(0, .d (eL none (eL none (D.int .i64)) a0)), (1, vi a1), (5, .loc 0 0 l14.length), (15, vi (l5.length : Int)), (16, vi i7)], ac [(0, .lst true none (List.map (D.int .i64) l14))], 1⟩ ?_ ?_
  ·
   iterate 2 refine q1 _ ?_
   refine step (v := .ptr 0 i7.toNat 0) (de (xs := l6) (e := (D.int .i64)) hx13 rfl rfl rfl rfl) ?_
   refine step (v := V.undef) (σ' := (aj (ac [(0, .lst true none (List.map (D.int .i64) l6))]) 0 (some (.lst true none (List.map (D.int .i64) l14))))) (n' := 1) (eY (e := (D.int .i64)) (v' := (-1)) hl14 rfl rfl rfl rfl rfl) ?_
   exact aK.nil' (nm [0] ⟨.d _, .d _, .le (id := 0) (eW hl14).symm (show 0 < 1 by decide), .d _, .d _, trivial⟩ ⟨⟨show 0 < 1 by decide, _, rfl, .lst _ _ _⟩, trivial⟩)
  have hh := aB h
  subst hh
  refine bw ⟨tab [(0, .d (eL none (eL none (D.int .i64)) a0)), (1, vi a1), (5, .loc 0 0 l14.length), (15, vi (l5.length : Int)), (16, vi (i7 + 1))], ac [(0, .lst true none (List.map (D.int .i64) l14))], 1⟩ ?_ ?_
  ·
   refine step (v := vi (i7 + 1)) (cd (ce hinv10 hgo9 hB8) rfl rfl) ?_
   refine q1 _ ?_
   exact nR [0]
  exact And.intro rfl rfl
 ·
  rintro i7 l6 hinv10 hgo9
  show aF _ _ _ _ _ ⟨tab [(0, .d (eL none (eL none (D.int .i64)) a0)), (1, vi a1), (5, .loc 0 0 l6.length), (15, vi (l5.length : Int)), (16, vi i7)], ac [(0, .lst true none (List.map (D.int .i64) l6))], 1⟩
  have hc11 : ¬ (decide (i7 < (l5.length : Int)) = true) := fun hq => hgo9 (of_decide_eq_true hq)
  refine ak ⟨tab [(0, .d (eL none (eL none (D.int .i64)) a0)), (1, vi a1), (5, .loc 0 0 l6.length), (17, vb (decide (i7 < (l5.length : Int))))], ac [(0, .lst true none (List.map (D.int .i64) l6))], 1⟩ ?_ ?_
  ·
   refine q1 _ ?_
   exact nR [0]
  refine aE ?_
  refine a8 (t := decide (i7 < (l5.length : Int))) rfl hc11 ?_
  refine aW (s0 := ⟨tab [(0, .d (eL none (eL none (D.int .i64)) a0)), (1, vi a1), (5, .loc 0 0 l6.length)], ac [(0, .lst true none (List.map (D.int .i64) l6))], 1⟩) (nr [0]) ?_
  refine bQ ?_
  exact And.intro rfl rfl
 refine aE ?_
 obtain ⟨r2, hr2, h⟩ := ap h
 refine aE ?_
 refine bw ⟨tab [(0, .d (eL none (eL none (D.int .i64)) a0)), (1, vi a1), (5, .loc 0 0 z15.length), (26, vb (!r2))], ac [(0, .lst true none (List.map (D.int .i64) z15))], 1⟩ ?_ ?_
 ·
  iterate 2 refine q1 _ ?_
  refine bz (r := .bool r2) (aL (aL aS.nil')) (iA hr2) ?_
  refine q1 _ ?_
  exact nR [0]
 by_cases hc : (!r2) = true
 ·
  replace h := bp hc h
  refine aZ (t := !r2) rfl hc ?_
  refine ak ⟨tab [(4, .loc 0 0 z15.length)], ac [(0, .lst true none (List.map (D.int .i64) z15))], 1⟩ ?_ ?_
  ·
   iterate 2 refine q1 _ ?_
   exact nR [0]
  have hh := aB h
  subst hh
  refine bB ?_
  show FQ _ _ _ _
  exact bR (.inr rfl) (bn (v := .loc 0 0 z15.length) rfl rfl) (RV.loc rfl (by simp) trivial)
 replace h := bq hc h
 refine a8 (t := !r2) rfl hc ?_
 refine ba ?_
 obtain ⟨x16, hx16, h⟩ := ap h
 obtain ⟨l17, hl17, h⟩ := ap h
 refine ak ⟨tab [(0, .d (eL none (eL none (D.int .i64)) a0)), (1, vi a1), (5, .loc 0 0 l17.length)], ac [(0, .lst true none (List.map (D.int .i64) l17))], 1⟩ ?_ ?_
 ·
  iterate 2 refine q1 _ ?_
  refine step (v := .ptr 0 a1.toNat 0) (de (xs := z15) (e := (D.int .i64)) hx16 rfl rfl rfl rfl) ?_
  refine step (v := V.undef) (σ' := (aj (ac [(0, .lst true none (List.map (D.int .i64) z15))]) 0 (some (.lst true none (List.map (D.int .i64) l17))))) (n' := 1) (eY (e := (D.int .i64)) (v' := 0) hl17 rfl rfl rfl rfl rfl) ?_
  exact aK.nil' (nm [0] ⟨.d _, .d _, .le (id := 0) (eW hl17).symm (show 0 < 1 by decide), trivial⟩ ⟨⟨show 0 < 1 by decide, _, rfl, .lst _ _ _⟩, trivial⟩)
 refine aE ?_
 refine ak ⟨tab [(0, .d (eL none (eL none (D.int .i64)) a0)), (5, .loc 0 0 l17.length), (7, .loc 1 0 1)], fS [] l17 [a1], 2⟩ ?_ ?_
 ·
  refine q1 _ ?_
  refine step (v := .loc 1 0 1) (σ' := (aj (ac [(0, .lst true none (List.map (D.int .i64) l17))]) 1 (some (.lst false none [.int .i64 a1])))) (n' := 2) rfl ?_
  refine q1 _ ?_
  exact nR [0, 1]
 obtain ⟨⟨z, zq⟩, hl2, h⟩ := ap h
 have hh := aB h
 subst hh
 refine be ?_
 refine tv (γ := List D) (fun (g : List D) (s : List Int × List Int) => ⟨tab [(0, .d (eL none (eL none (D.int .i64)) a0)), (5, .loc 0 0 s.1.length), (7, .loc 1 g.length s.2.length)], fS g s.1 s.2, 2⟩) 2 (fun (g : List D) (s : List Int × List Int) => ⟨tab [(5, .loc 0 0 s.1.length)], ac [(0, .lst true none (List.map (D.int .i64) s.1))], 1⟩) (g := []) hl2 ?_ ?_
 ·
  rintro g ⟨d, q⟩ x h
  show aF _ _ _ _ _ ⟨tab [(0, .d (eL none (eL none (D.int .i64)) a0)), (5, .loc 0 0 d.length), (7, .loc 1 g.length q.length)], fS g d q, 2⟩
  refine aE ?_
  refine aE ?_
  refine bw ⟨tab [(0, .d (eL none (eL none (D.int .i64)) a0)), (5, .loc 0 0 d.length), (7, .loc 1 g.length q.length), (35, vb (decide ((q.length : Int) > 0)))], fS g d q, 2⟩ ?_ ?_
  ·
   iterate 3 refine q1 _ ?_
   exact nR [0, 1]
  by_cases hc : decide ((q.length : Int) > 0) = true
  ·
   replace h := bp hc h
   refine aZ rfl hc ?_
   refine ba ?_
   obtain ⟨xh, hxh, h⟩ := ap h
   obtain ⟨l, hll, h⟩ := ap h
   obtain ⟨⟨d2, q2⟩, hl3, h⟩ := ap h
   obtain ⟨q3, hq3, h⟩ := ap h
   have hh := aB h
   subst hh
   refine aE ?_
   refine be ?_
   refine ak ⟨tab [(0, .d (eL none (eL none (D.int .i64)) a0)), (5, .loc 0 0 d.length), (7, .loc 1 g.length q.length), (8, vi xh)], fS g d q, 2⟩ ?_ ?_
   ·
    refine q1 _ ?_
    refine step (v := .ptr 1 (g.length + (0 : Int).toNat) 0) (vA rfl rfl hxh) ?_
    refine step (v := vi xh) (vB rfl hxh) ?_
    refine q1 _ ?_
    exact nR [0, 1]
   refine ak ⟨tab [(0, .d (eL none (eL none (D.int .i64)) a0)), (5, .loc 0 0 d.length), (7, .loc 1 g.length q.length), (8, vi xh), (44, aw l), (45, vi (l.length : Int)), (46, vi 0)], fS g d q, 2⟩ ?_ ?_
   ·
    iterate 2 refine q1 _ ?_
    refine step (v := .d (.cptr none (eL none (D.int .i64) l) 0)) (bZ (xs := a0) (e := (eL none (D.int .i64))) hll rfl rfl) ?_
    refine q1 _ ?_
    refine step (v := vi (l.length : Int)) (bH (xs := l) (e := (D.int .i64)) rfl) ?_
    refine q1 _ ?_
    exact nR [0, 1]
   refine be ?_
   refine tw (γ := List D) (cg (l.length : Int)) (fun (g : List D) (i : Int) (s : List Int × List Int) => ⟨tab [(0, .d (eL none (eL none (D.int .i64)) a0)), (5, .loc 0 0 s.1.length), (7, .loc 1 g.length s.2.length), (8, vi xh), (44, aw l), (45, vi (l.length : Int)), (46, vi i)], fS g s.1 s.2, 2⟩) 4 (fun (g : List D) (s : List Int × List Int) => ⟨tab [(0, .d (eL none (eL none (D.int .i64)) a0)), (5, .loc 0 0 s.1.length), (7, .loc 1 g.length s.2.length)], fS g s.1 s.2, 2⟩) bg ck (g := g) hl3 (by unfold bg; omega) ?_ ?_ ?_
   ·
    rintro g i ⟨d, q⟩ ⟨d9, q9⟩ hinv hgo h
    show aF _ _ _ _ _ ⟨tab [(0, .d (eL none (eL none (D.int .i64)) a0)), (5, .loc 0 0 d.length), (7, .loc 1 g.length q.length), (8, vi xh), (44, aw l), (45, vi (l.length : Int)), (46, vi i)], fS g d q, 2⟩
    have hci : decide (i < (l.length : Int)) = true := decide_eq_true hgo
    refine ak ⟨tab [(0, .d (eL none (eL none (D.int .i64)) a0)), (5, .loc 0 0 d.length), (7, .loc 1 g.length q.length), (8, vi xh), (44, aw l), (45, vi (l.length : Int)), (46, vi i), (47, vb (decide (i < (l.length : Int))))], fS g d q, 2⟩ ?_ ?_
    ·
     refine q1 _ ?_
     exact nR [0, 1]
    refine cf 45 rfl fun hB => ?_
    refine aE ?_
    refine aZ rfl hci ?_
    refine ba ?_
    obtain ⟨k, hk, h⟩ := ap h
    obtain ⟨dk, hdk, h⟩ := ap h
    have tailR : ∀ (g2 : List D), aF Try.prog 69 0 (.ops false [oo 67 (.bin .add (.t 46) (ci 1)), oo 46 (.mov (.t 67))]) (fun e s' => e = .normal ∧ ∃ g3 : List D, s' = (⟨tab [(0, .d (eL none (eL none (D.int .i64)) a0)), (5, .loc 0 0 d9.length), (7, .loc 1 g3.length q9.length), (8, vi xh), (44, aw l), (45, vi (l.length : Int)), (46, vi (i + 1))], fS g3 d9 q9, 2⟩ : S)) ⟨tab [(0, .d (eL none (eL none (D.int .i64)) a0)), (5, .loc 0 0 d9.length), (7, .loc 1 g2.length q9.length), (8, vi xh), (44, aw l), (45, vi (l.length : Int)), (46, vi i)], fS g2 d9 q9, 2⟩ := by
     intro g2
     refine bw ⟨tab [(0, .d (eL none (eL none (D.int .i64)) a0)), (5, .loc 0 0 d9.length), (7, .loc 1 g2.length q9.length), (8, vi xh), (44, aw l), (45, vi (l.length : Int)), (46, vi (i + 1))], fS g2 d9 q9, 2⟩ ?_ ⟨rfl, g2, rfl⟩
     refine step (v := vi (i + 1)) (cd (ce hinv hgo hB) rfl rfl) ?_
     refine q1 _ ?_
     exact nR [0, 1]
    refine aE ?_
    refine be ?_
    refine ak ⟨tab [(0, .d (eL none (eL none (D.int .i64)) a0)), (5, .loc 0 0 d.length), (7, .loc 1 g.length q.length), (8, vi xh), (10, vi k), (44, aw l), (45, vi (l.length : Int)), (46, vi i)], fS g d q, 2⟩ ?_ ?_
    ·
     refine step (v := .d (.cptr none (.int .i64 k) 0)) (bZ (xs := l) (e := (D.int .i64)) hk rfl rfl) ?_
     iterate 2 refine q1 _ ?_
     exact nR [0, 1]
    refine ak ⟨tab [(0, .d (eL none (eL none (D.int .i64)) a0)), (5, .loc 0 0 d.length), (7, .loc 1 g.length q.length), (8, vi xh), (10, vi k), (44, aw l), (45, vi (l.length : Int)), (46, vi i), (54, vb (decide (dk < 0)))], fS g d q, 2⟩ ?_ ?_
    ·
     iterate 2 refine q1 _ ?_
     refine step (v := .ptr 0 k.toNat 0) (de (xs := d) (e := (D.int .i64)) hdk rfl rfl rfl rfl) ?_
     refine step (v := vi dk) (eX (xs := d) (e := (D.int .i64)) hdk rfl rfl rfl) ?_
     refine q1 _ ?_
     exact nR [0, 1]
    by_cases hck : decide (dk < 0) = true
    ·
     replace h := bp hck h
     obtain ⟨dx, hdx, h⟩ := ap h
     obtain ⟨d3, hd3, h⟩ := ap h
     obtain ⟨q4, hq4, h⟩ := ap h
     obtain ⟨rfl, rfl⟩ := Prod.mk.inj (aB h)
     refine aZ rfl hck ?_
     have hkd : aQ d k = some dk := hdk
     refine ak ⟨tab [(0, .d (eL none (eL none (D.int .i64)) a0)), (5, .loc 0 0 d3.length), (7, .loc 1 g.length q.length), (8, vi xh), (10, vi k), (44, aw l), (45, vi (l.length : Int)), (46, vi i)], fS g d3 q, 2⟩ ?_ ?_
     ·
      iterate 4 refine q1 _ ?_
      refine step (v := .ptr 0 xh.toNat 0) (de (xs := d) (e := (D.int .i64)) hdx rfl rfl rfl rfl) ?_
      refine step (v := vi dx) (eX (xs := d) (e := (D.int .i64)) hdx rfl rfl rfl) ?_
      refine q1 _ ?_
      refine step (v := .ptr 0 k.toNat 0) (de (xs := d) (e := (D.int .i64)) hdk rfl rfl rfl rfl) ?_
      refine step (v := V.undef) (σ' := (aj (fS g d q) 0 (some (.lst true none (List.map (D.int .i64) d3))))) (n' := 2) (eY (e := (D.int .i64)) (v' := (IntKind.i64.wrap (dx + 1))) hd3 rfl rfl rfl rfl rfl) ?_
      exact aK.nil' (nm [0, 1] ⟨.d _, .le (id := 0) (eW hd3).symm (show 0 < 2 by decide), .lc 1, .d _, .d _, .d _, .d _, .d _, trivial⟩ ⟨⟨show 0 < 2 by decide, _, rfl, .lst _ _ _⟩, ⟨show 1 < 2 by decide, _, rfl, .lst _ _ _⟩, trivial⟩)
     have hq5 : q4 = q ++ [k] ∧ q.length + 1 ≤ 4294967296 := by
      unfold cJ at hq4
      split at hq4
      ·
       rename_i hle; cases hq4; exact ⟨rfl, hle⟩
      ·
       cases hq4
     obtain ⟨rfl, hle⟩ := hq5
     refine tu ?_
     refine .inl (q1 _ (aK.nil' ?_))
     refine .inl (q1 _ (aK.nil' ?_))
     refine .inl (q1 (.d (.vec none [.int .i64 k])) (aK.nil' ?_))
     refine .inr ⟨rfl, none, .t 63, .t 65, false, 1, g.length, q.length, false, g ++ List.map (D.int .i64) q, [.int .i64 k], rfl, rfl, rfl, by simp, by simp [dG, dF, bT, cW, aC, aN, aj], by simpa [dE] using hle, fun g2 => ?_⟩
     refine .inl (q1 (.loc 2 g2.length (q.length + 1)) (aK.nil' ?_))
     refine ⟨⟨tab [(0, .d (eL none (eL none (D.int .i64)) a0)), (5, .loc 0 0 d3.length), (7, .loc 1 g2.length (q ++ [k]).length), (8, vi xh), (44, aw l), (45, vi (l.length : Int)), (46, vi i)], fS g2 d3 (q ++ [k]), 2⟩, ?_, tailR g2⟩
     have e1 : List.drop g.length (g ++ List.map (D.int .i64) q) ++ [D.int .i64 k] = List.map (D.int .i64) (q ++ [k]) := by simp
     rw [e1]
     have e2 : (q ++ [k]).length = q.length + 1 := by simp
     rw [e2]
     exact nr [0, 2]
    ·
     replace h := bq hck h
     obtain ⟨rfl, rfl⟩ := Prod.mk.inj (aB h)
     refine a8 rfl hck ?_
     refine aW (s0 := ⟨tab [(0, .d (eL none (eL none (D.int .i64)) a0)), (5, .loc 0 0 d.length), (7, .loc 1 g.length q.length), (8, vi xh), (44, aw l), (45, vi (l.length : Int)), (46, vi i)], fS g d q, 2⟩) (nr [0, 1]) ?_
     refine ba ?_
     exact tailR g
   ·
    rintro g i ⟨d, q⟩ hinv hgo
    show aF _ _ _ _ _ ⟨tab [(0, .d (eL none (eL none (D.int .i64)) a0)), (5, .loc 0 0 d.length), (7, .loc 1 g.length q.length), (8, vi xh), (44, aw l), (45, vi (l.length : Int)), (46, vi i)], fS g d q, 2⟩
    have hci : ¬ (decide (i < (l.length : Int)) = true) := fun hq => hgo (of_decide_eq_true hq)
    refine ak ⟨tab [(0, .d (eL none (eL none (D.int .i64)) a0)), (5, .loc 0 0 d.length), (7, .loc 1 g.length q.length), (47, vb (decide (i < (l.length : Int))))], fS g d q, 2⟩ ?_ ?_
    ·
     refine q1 _ ?_
     exact nR [0, 1]
    refine aE ?_
    refine a8 rfl hci ?_
    refine aW (s0 := ⟨tab [(0, .d (eL none (eL none (D.int .i64)) a0)), (5, .loc 0 0 d.length), (7, .loc 1 g.length q.length)], fS g d q, 2⟩) (nr [0, 1]) ?_
    refine bQ ?_
    exact And.intro rfl rfl
   intro g2
   obtain ⟨xq, hxq⟩ := vD hq3
   refine bw ⟨tab [(0, .d (eL none (eL none (D.int .i64)) a0)), (5, .loc 0 0 d2.length), (7, .loc 1 (g2 ++ [D.int .i64 xq]).length q3.length)], fS (g2 ++ [D.int .i64 xq]) d2 q3, 2⟩ ?_ ⟨rfl, _, rfl⟩
   refine q1 _ ?_
   refine step (v := .loc 1 (g2.length + 1) q3.length) (vC rfl hq3) ?_
   refine q1 _ ?_
   have e1 : g2 ++ List.map (D.int .i64) q2 = (g2 ++ [D.int .i64 xq]) ++ List.map (D.int .i64) q3 := by rw [hxq]; simp
   have e2 : (g2 ++ [D.int .i64 xq]).length = g2.length + 1 := by simp
   rw [e2]
   refine aK.nil' (nm [0, 1] ⟨.d _, .lc 0, .lc 1, trivial⟩ ⟨⟨show 0 < 2 by decide, _, rfl, .lst _ _ _⟩, ⟨show 1 < 2 by decide, _, rfl, ?_⟩, trivial⟩)
   rw [e1]; exact .lst _ _ _
  ·
   replace h := bq hc h
   have hh := aB h
   subst hh
   refine a8 rfl hc ?_
   refine aW (s0 := ⟨tab [(5, .loc 0 0 d.length)], ac [(0, .lst true none (List.map (D.int .i64) d))], 1⟩) (nr [0]) ?_
   refine bQ ?_
   exact ⟨rfl, g, rfl⟩
 intro g2
 show aF _ _ _ _ _ ⟨tab [(5, .loc 0 0 z.length)], ac [(0, .lst true none (List.map (D.int .i64) z))], 1⟩
 refine ak ⟨tab [(4, .loc 0 0 z.length)], ac [(0, .lst true none (List.map (D.int .i64) z))], 1⟩ ?_ ?_
 ·
  iterate 2 refine q1 _ ?_
  exact nR [0]
 refine bB ?_
 show FQ _ _ _ _
 exact bR (.inr rfl) (bn (v := .loc 0 0 z.length) rfl rfl) (RV.loc rfl (by simp) trivial)
theorem vJ {a0 : Int} {a1 : (List Int)} {a2 : Int} {r : Bool} (h : jx a0 a1 a2 = some r) : PCall Try.prog 60 [.int .i64 a0, .cptr none (eL none (D.int .i64) a1) 0, .cptr none (.int .i64 a2) 0] (.bool r) := by
 refine PCall.introN tX (show 3 ≤ 15 by decide) ?_
 refine aW (s0 := ⟨tab [(0, vi a0), (1, .d (.cptr none (eL none (D.int .i64) a1) 0)), (2, .d (.cptr none (.int .i64 a2) 0))], ac [], 0⟩) (nr []) ?_
 refine ak ⟨tab [(0, vi a0), (1, .d (.cptr none (eL none (D.int .i64) a1) 0)), (2, .d (.cptr none (.int .i64 a2) 0))], ac [], 0⟩ ?_ ?_
 ·
  refine q1 _ ?_
  exact nR []
 obtain ⟨x1, hx1, h⟩ := ap h
 obtain ⟨x2, hx2, h⟩ := ap h
 refine ak ⟨tab [(4, vb (x1 == (IntKind.i64.wrap (x2 - 1))))], ac [], 0⟩ ?_ ?_
 ·
  iterate 2 refine q1 _ ?_
  refine step (v := .d (.cptr none (.int .i64 x1) 0)) (bZ (xs := a1) (e := (D.int .i64)) hx1 rfl rfl) ?_
  iterate 3 refine q1 _ ?_
  refine step (v := .d (.cptr none (.int .i64 x2) 0)) (bZ (xs := a1) (e := (D.int .i64)) hx2 rfl rfl) ?_
  iterate 4 refine q1 _ ?_
  exact nR []
 have hh := aB h
 subst hh
 refine bB ?_
 show FQ _ _ _ _
 exact bR (.inr rfl) (bn (v := vb (x1 == (IntKind.i64.wrap (x2 - 1)))) rfl rfl) (RV.d trivial)
theorem vK {a0 : (List Int)} {a1 : Int → Option Bool} {g_a1 : D} (hf_a1 : rS Try.prog g_a1 (D.int .i64) D.bool a1) {r : Int} (h : jy a0 a1 = some r) : PCall Try.prog 59 [eL none (D.int .i64) a0, g_a1] (.int .i64 r) := by
 obtain ⟨fn_a1, cap_a1, rfl, hc_a1⟩ := hf_a1
 refine PCall.introN t1 (show 2 ≤ 19 by decide) ?_
 refine aW (s0 := ⟨tab [(0, aw a0), (1, .d (.func fn_a1 cap_a1))], ac [], 0⟩) (nr []) ?_
 refine ak ⟨tab [(0, aw a0), (1, .d (.func fn_a1 cap_a1))], ac [], 0⟩ ?_ ?_
 ·
  refine q1 _ ?_
  exact nR []
 refine aE ?_
 refine ak ⟨tab [(0, aw a0), (1, .d (.func fn_a1 cap_a1)), (7, vi (a0.length : Int)), (8, vi 0)], ac [], 0⟩ ?_ ?_
 ·
  refine q1 _ ?_
  refine step (v := vi (a0.length : Int)) (bH (xs := a0) (e := (D.int .i64)) rfl) ?_
  refine q1 _ ?_
  exact nR []
 obtain ⟨q10, hl, h⟩ := ap h
 refine be ?_
 refine eJ (cg (a0.length : Int)) (fun (i1 : Int) (qq : Unit) => ⟨tab [(0, aw a0), (1, .d (.func fn_a1 cap_a1)), (7, vi (a0.length : Int)), (8, vi i1)], ac [], 0⟩) 0 (fun (qq : Unit) => ⟨tab [], ac [], 0⟩) bg ck (r := r) hl (by unfold bg; omega) ?_ ?_ ?_ ?_
 ·
  rintro i1 ⟨⟩ xr6 hinv4 hgo3 h
  show aF _ _ _ _ _ ⟨tab [(0, aw a0), (1, .d (.func fn_a1 cap_a1)), (7, vi (a0.length : Int)), (8, vi i1)], ac [], 0⟩
  have hc5 : decide (i1 < (a0.length : Int)) = true := decide_eq_true hgo3
  refine ak ⟨tab [(0, aw a0), (1, .d (.func fn_a1 cap_a1)), (7, vi (a0.length : Int)), (8, vi i1), (9, vb (decide (i1 < (a0.length : Int))))], ac [], 0⟩ ?_ ?_
  ·
   refine q1 _ ?_
   exact nR []
  refine cf 7 rfl fun hB2 => ?_
  refine aE ?_
  refine aZ (t := decide (i1 < (a0.length : Int))) rfl hc5 ?_
  refine ba ?_
  refine aE ?_
  refine be ?_
  refine ak ⟨tab [(0, aw a0), (1, .d (.func fn_a1 cap_a1)), (5, vi i1), (7, vi (a0.length : Int)), (8, vi i1)], ac [], 0⟩ ?_ ?_
  ·
   iterate 2 refine q1 _ ?_
   exact nR []
  obtain ⟨x7, hx7, h⟩ := ap h
  obtain ⟨x8, hx8, h⟩ := ap h
  refine ak ⟨tab [(0, aw a0), (1, .d (.func fn_a1 cap_a1)), (5, vi i1), (7, vi (a0.length : Int)), (8, vi i1), (16, vb x8)], ac [], 0⟩ ?_ ?_
  ·
   iterate 3 refine q1 _ ?_
   refine step (v := .d (.cptr none (.int .i64 x7) 0)) (bZ (xs := a0) (e := (D.int .i64)) hx7 rfl rfl) ?_
   refine q1 _ ?_
   refine rK (r := .bool x8) rfl (aL aS.nil') (hc_a1 _ _ hx8) ?_
   exact nR []
  by_cases hc9 : x8 = true
  ·
   replace h := bp hc9 h
   refine aZ (t := x8) rfl hc9 ?_
   refine ak ⟨tab [(4, vi i1)], ac [], 0⟩ ?_ ?_
   ·
    iterate 2 refine q1 _ ?_
    exact nR []
   obtain ⟨r10, kr10, hr⟩ := dU (o := some i1) (g := Br.ret) h
   subst hr
   have h := kr10
   have hh := aB h
   subst hh
   refine bB ?_
   refine And.intro (fun hn => nomatch hn) ?_
   intro hq
   have hq := hq.symm
   subst hq
   show FQ _ _ _ _
   exact bR (.inr rfl) (bn (v := vi i1) rfl rfl) (RV.d trivial)
  ·
   replace h := bq hc9 h
   refine a8 (t := x8) rfl hc9 ?_
   refine ba ?_
   have hh := aB h
   subst hh
   refine bw ⟨tab [(0, aw a0), (1, .d (.func fn_a1 cap_a1)), (7, vi (a0.length : Int)), (8, vi (i1 + 1))], ac [], 0⟩ ?_ ?_
   ·
    refine step (v := vi (i1 + 1)) (cd (ce hinv4 hgo3 hB2) rfl rfl) ?_
    refine q1 _ ?_
    exact nR []
   exact And.intro rfl rfl
 ·
  rintro i1 ⟨⟩ hinv4 hgo3
  show aF _ _ _ _ _ ⟨tab [(0, aw a0), (1, .d (.func fn_a1 cap_a1)), (7, vi (a0.length : Int)), (8, vi i1)], ac [], 0⟩
  have hc5 : ¬ (decide (i1 < (a0.length : Int)) = true) := fun hq => hgo3 (of_decide_eq_true hq)
  refine ak ⟨tab [(0, aw a0), (1, .d (.func fn_a1 cap_a1)), (7, vi (a0.length : Int)), (8, vi i1), (9, vb (decide (i1 < (a0.length : Int))))], ac [], 0⟩ ?_ ?_
  ·
   refine q1 _ ?_
   exact nR []
  refine aE ?_
  refine a8 (t := decide (i1 < (a0.length : Int))) rfl hc5 ?_
  refine aW (s0 := ⟨tab [], ac [], 0⟩) (nr []) ?_
  refine bQ ?_
  exact And.intro rfl rfl
 ·
  intro r' hq
  subst hq
  exact aB h
 rintro ⟨⟩ rfl
 refine ak ⟨tab [(4, vi (-1))], ac [], 0⟩ ?_ ?_
 ·
  refine q1 _ ?_
  exact nR []
 have hh := aB h
 subst hh
 refine bB ?_
 show FQ _ _ _ _
 exact bR (.inr rfl) (bn (v := vi (-1)) rfl rfl) (RV.d trivial)
theorem pH {a0 : api_Topo} {a1 : Int} {a2 : Int} {r : ((List Int) × Bool)} (h : fv a0 a1 a2 = some r) : PCall Try.prog 23 [eapi_Topo a0, .int .i64 a1, .int .i64 a2] (.tup [eL none (D.int .i64) r.1, .bool r.2]) := by
 refine PCall.introN t8 (show 3 ≤ 58 by decide) ?_
 refine aW (s0 := ⟨tab [(0, vs1 a0), (1, vi a1), (2, vi a2)], ac [], 0⟩) (nr []) ?_
 refine ak ⟨tab [(1, vi a1), (2, vi a2), (3, am a0)], ac [], 0⟩ ?_ ?_
 ·
  iterate 3 refine q1 _ ?_
  exact nR []
 obtain ⟨r1, hr1, h⟩ := ap h
 refine ak ⟨tab [(1, vi a1), (2, vi a2), (8, .d (eL none (eL none (D.int .i64)) r1))], ac [], 0⟩ ?_ ?_
 ·
  refine q1 _ ?_
  refine bz (r := eL none (eL none (D.int .i64)) r1) (aL (aL aS.nil')) (gT hr1) ?_
  refine q1 _ ?_
  exact nR []
 refine aE ?_
 obtain ⟨r2, hr2, h⟩ := ap h
 obtain ⟨y5, hv, h⟩ := ap h
 refine ak ⟨tab [(1, vi a1), (2, vi a2), (8, .d (eL none (eL none (D.int .i64)) r1)), (24, vb y5)], ac [], 0⟩ ?_ ?_
 ·
  iterate 2 refine q1 _ ?_
  refine bz (r := .bool r2) (aL (aL aS.nil')) (iA hr2) ?_
  iterate 2 refine q1 _ ?_
  by_cases hg3 : (!r2) = true
  ·
   replace hv := bp hg3 hv
   iterate 4 refine qX (!r2) (by rw [hg3]; decide) ?_
   refine step (v := vb true) (bv (b := (!r2)) rfl hg3 rfl) ?_
   have hh := aB hv
   subst hh
   exact nR []
  ·
   replace hv := bq hg3 hv
   obtain ⟨r4, hr4, hv⟩ := ap hv
   refine qG (!r2) (Bool.eq_false_iff.2 hg3) ?_
   refine q1 _ ?_
   refine qG (!r2) (Bool.eq_false_iff.2 hg3) ?_
   refine q1 _ ?_
   refine qG (!r2) (Bool.eq_false_iff.2 hg3) ?_
   refine bz (r := .bool r4) (aL (aL aS.nil')) (iA hr4) ?_
   refine qG (!r2) (Bool.eq_false_iff.2 hg3) ?_
   refine q1 _ ?_
   refine step (v := vb (!r4)) (bx (b := (!r2)) rfl hg3 rfl) ?_
   have hh := aB hv
   subst hh
   exact nR []
 by_cases hc7 : y5 = true
 ·
  replace h := bp hc7 h
  refine aZ (t := y5) rfl hc7 ?_
  refine ak ⟨tab [(6, aw ([] : List Int)), (7, vb false)], ac [], 0⟩ ?_ ?_
  ·
   iterate 2 refine q1 _ ?_
   exact nR []
  have hh := aB h
  subst hh
  refine bB ?_
  show FQ _ _ _ _
  exact eZ (.inr rfl) (bn (v := aw ([] : List Int)) rfl (bn (v := vb false) rfl rfl)) (RV.d (RV.d trivial))
 ·
  replace h := bq hc7 h
  refine a8 (t := y5) rfl hc7 ?_
  refine ba ?_
  obtain ⟨r8, hr8, h⟩ := ap h
  refine ak ⟨tab [(1, vi a1), (2, vi a2), (8, .d (eL none (eL none (D.int .i64)) r1)), (9, .ptr 0 0 0)], ac [(0, .var [aw r8])], 1⟩ ?_ ?_
  ·
   iterate 2 refine q1 _ ?_
   refine bz (r := eL none (D.int .i64) r8) (aL (aL aS.nil')) (jr hr8) ?_
   refine step (v := .ptr 0 0 0) (σ' := (aj (ac []) 0 (some (.var [aw []])))) (n' := 1) rfl ?_
   refine step (v := V.undef) (σ' := (aj (aj (ac []) 0 (some (.var [aw []]))) 0 (some (.var [aw r8])))) (n' := 1) rfl ?_
   exact nR [0]
  refine aE ?_
  obtain ⟨x9, hx9, h⟩ := ap h
  refine ak ⟨tab [(1, vi a1), (2, vi a2), (8, .d (eL none (eL none (D.int .i64)) r1)), (9, .ptr 0 0 0), (32, vb (decide (x9 < 0)))], ac [(0, .var [aw r8])], 1⟩ ?_ ?_
  ·
   iterate 2 refine q1 _ ?_
   refine step (v := .d (.cptr none (.int .i64 x9) 0)) (bZ (xs := r8) (e := (D.int .i64)) hx9 rfl rfl) ?_
   iterate 2 refine q1 _ ?_
   exact nR [0]
  by_cases hc10 : decide (x9 < 0) = true
  ·
   replace h := bp hc10 h
   refine aZ (t := decide (x9 < 0)) rfl hc10 ?_
   refine ak ⟨tab [(6, aw ([] : List Int)), (7, vb false)], ac [], 0⟩ ?_ ?_
   ·
    iterate 2 refine q1 _ ?_
    exact nR []
   have hh := aB h
   subst hh
   refine bB ?_
   show FQ _ _ _ _
   exact eZ (.inr rfl) (bn (v := aw ([] : List Int)) rfl (bn (v := vb false) rfl rfl)) (RV.d (RV.d trivial))
  ·
   replace h := bq hc10 h
   refine a8 (t := decide (x9 < 0)) rfl hc10 ?_
   refine ba ?_
   refine ak ⟨tab [(1, vi a1), (2, vi a2), (8, .d (eL none (eL none (D.int .i64)) r1)), (9, .ptr 0 0 0), (10, .loc 1 0 (([a1] : List Int).length))], ac [(0, .var [aw r8]), (1, .lst false none (List.map (D.int .i64) ([a1] : List Int)))], 2⟩ ?_ ?_
   ·
    refine q1 _ ?_
    refine step (v := .loc 1 0 (([a1] : List Int).length)) (σ' := (aj (ac [(0, .var [aw r8])]) 1 (some (.lst false none (List.map (D.int .i64) ([a1] : List Int)))))) (n' := 2) rfl ?_
    refine q1 _ ?_
    exact nR [0, 1]
   refine aE ?_
   refine ak ⟨tab [(2, vi a2), (8, .d (eL none (eL none (D.int .i64)) r1)), (9, .ptr 0 0 0), (10, .loc 1 0 (([a1] : List Int).length)), (11, .ptr 2 0 0)], ac [(0, .var [aw r8]), (1, .lst false none (List.map (D.int .i64) ([a1] : List Int))), (2, .var [vi a1])], 3⟩ ?_ ?_
   ·
    refine q1 _ ?_
    refine step (v := .ptr 2 0 0) (σ' := (aj (ac [(0, .var [aw r8]), (1, .lst false none (List.map (D.int .i64) ([a1] : List Int)))]) 2 (some (.var [vi 0])))) (n' := 3) rfl ?_
    refine step (v := V.undef) (σ' := (aj (aj (ac [(0, .var [aw r8]), (1, .lst false none (List.map (D.int .i64) ([a1] : List Int)))]) 2 (some (.var [vi 0]))) 2 (some (.var [vi a1])))) (n' := 3) rfl ?_
    exact nR [0, 1, 2]
   obtain ⟨q21, hl, h⟩ := ap h
   obtain ⟨z19, z20⟩ := q21
   refine be ?_
   refine lX (fun (qq : ((List Int) × Int)) => ⟨tab [(2, vi a2), (8, .d (eL none (eL none (D.int .i64)) r1)), (9, .ptr 0 0 0), (10, .loc 1 0 qq.1.length), (11, .ptr 2 0 0)], ac [(0, .var [aw r8]), (1, .lst false none (List.map (D.int .i64) qq.1)), (2, .var [vi qq.2])], 3⟩) 0 (fun (qq : ((List Int) × Int)) => ⟨tab [(10, .loc 0 0 qq.1.length)], ac [(0, .lst false none (List.map (D.int .i64) qq.1))], 1⟩) hl ?_ ?_
   ·
    rintro ⟨l11, i12⟩ xr13 h
    show aF _ _ _ _ _ ⟨tab [(2, vi a2), (8, .d (eL none (eL none (D.int .i64)) r1)), (9, .ptr 0 0 0), (10, .loc 1 0 l11.length), (11, .ptr 2 0 0)], ac [(0, .var [aw r8]), (1, .lst false none (List.map (D.int .i64) l11)), (2, .var [vi i12])], 3⟩
    refine aE ?_
    refine ak ⟨tab [(2, vi a2), (8, .d (eL none (eL none (D.int .i64)) r1)), (9, .ptr 0 0 0), (10, .loc 1 0 l11.length), (11, .ptr 2 0 0), (38, vb (i12 != a2))], ac [(0, .var [aw r8]), (1, .lst false none (List.map (D.int .i64) l11)), (2, .var [vi i12])], 3⟩ ?_ ?_
    ·
     iterate 3 refine q1 _ ?_
     exact nR [0, 1, 2]
    by_cases hc14 : (i12 != a2) = true
    ·
     replace h := bp hc14 h
     refine aZ (t := (i12 != a2)) rfl hc14 ?_
     refine ba ?_
     refine aE ?_
     refine be ?_
     obtain ⟨x15, hx15, h⟩ := ap h
     obtain ⟨r16, hr16, h⟩ := ap h
     refine ak ⟨tab [(2, vi a2), (8, .d (eL none (eL none (D.int .i64)) r1)), (9, .ptr 0 0 0), (10, .loc 1 0 l11.length), (11, .ptr 2 0 0), (12, vi r16)], ac [(0, .var [aw r8]), (1, .lst false none (List.map (D.int .i64) l11)), (2, .var [vi i12])], 3⟩ ?_ ?_
     ·
      iterate 2 refine q1 _ ?_
      refine step (v := .d (.cptr none (eL none (D.int .i64) x15) 0)) (bZ (xs := r1) (e := (eL none (D.int .i64))) hx15 rfl rfl) ?_
      iterate 2 refine q1 _ ?_
      refine lV (v := vi r16) (σ' := _) (n' := _) (rZ (vK ⟨60, [.cptr none (eL none (D.int .i64) r8) 0, .cptr none (.int .i64 i12) 0], rfl, fun _ _ h => vJ h⟩ hr16) rfl (cQ.c (.d _) (cQ.c (se (cQ.c (.var1 rfl (.d _) rfl) (cQ.c (.var1 rfl (.d _) rfl) cQ.nil0))) cQ.nil0))) (Nat.le_refl _) ?_
      refine q1 _ ?_
      exact nR [0, 1, 2]
     obtain ⟨x17, hx17, h⟩ := ap h
     refine ak ⟨tab [(2, vi a2), (8, .d (eL none (eL none (D.int .i64)) r1)), (9, .ptr 0 0 0), (10, .loc 1 0 l11.length), (11, .ptr 2 0 0)], ac [(0, .var [aw r8]), (1, .lst false none (List.map (D.int .i64) l11)), (2, .var [vi x17])], 3⟩ ?_ ?_
     ·
      iterate 2 refine q1 _ ?_
      refine step (v := .d (.cptr none (eL none (D.int .i64) x15) 0)) (bZ (xs := r1) (e := (eL none (D.int .i64))) hx15 rfl rfl) ?_
      iterate 2 refine q1 _ ?_
      refine step (v := .d (.cptr none (.int .i64 x17) 0)) (bZ (xs := x15) (e := (D.int .i64)) hx17 rfl rfl) ?_
      refine q1 _ ?_
      refine step (v := V.undef) (σ' := (aj (ac [(0, .var [aw r8]), (1, .lst false none (List.map (D.int .i64) l11)), (2, .var [vi i12])]) 2 (some (.var [vi x17])))) (n' := 3) rfl ?_
      exact nR [0, 1, 2]
     obtain ⟨l18, hl18, h⟩ := ap h
     refine bw ⟨tab [(2, vi a2), (8, .d (eL none (eL none (D.int .i64)) r1)), (9, .ptr 0 0 0), (10, .loc 1 0 l18.length), (11, .ptr 2 0 0)], ac [(0, .var [aw r8]), (1, .lst false none (List.map (D.int .i64) l18)), (2, .var [vi x17])], 3⟩ ?_ ?_
     ·
      iterate 3 refine q1 _ ?_
      refine step (v := .loc 3 0 l18.length) (σ' := (aj (aj (ac [(0, .var [aw r8]), (1, .lst false none (List.map (D.int .i64) l11)), (2, .var [vi x17])]) 1 none) 3 (some (.lst false none (List.map (D.int .i64) l18))))) (n' := 4) (gM (xs := l11) (ys := ([x17] : List Int)) (e := (D.int .i64)) hl18 rfl rfl rfl (gL (xs := ([x17] : List Int)) (e := (D.int .i64)) rfl)) ?_
      refine q1 _ ?_
      exact nR [0, 3, 2]
     refine ak ⟨tab [(2, vi a2), (8, .d (eL none (eL none (D.int .i64)) r1)), (9, .ptr 0 0 0), (10, .loc 1 0 l18.length), (56, vi x17)], ac [(0, .var [aw r8]), (1, .lst false none (List.map (D.int .i64) l18))], 2⟩ ?_ ?_
     ·
      refine q1 _ ?_
      exact nR [0, 1]
     have hh := aB h
     subst hh
     refine bw ⟨tab [(2, vi a2), (8, .d (eL none (eL none (D.int .i64)) r1)), (9, .ptr 0 0 0), (10, .loc 1 0 l18.length), (11, .ptr 2 0 0)], ac [(0, .var [aw r8]), (1, .lst false none (List.map (D.int .i64) l18)), (2, .var [vi x17])], 3⟩ ?_ ?_
     ·
      refine step (v := .ptr 2 0 0) (σ' := (aj (ac [(0, .var [aw r8]), (1, .lst false none (List.map (D.int .i64) l18))]) 2 (some (.var [vi 0])))) (n' := 3) rfl ?_
      refine step (v := V.undef) (σ' := (aj (aj (ac [(0, .var [aw r8]), (1, .lst false none (List.map (D.int .i64) l18))]) 2 (some (.var [vi 0]))) 2 (some (.var [vi x17])))) (n' := 3) rfl ?_
      exact nR [0, 1, 2]
     exact And.intro rfl rfl
    ·
     replace h := bq hc14 h
     refine a8 (t := (i12 != a2)) rfl hc14 ?_
     have hh := aB h
     subst hh
     refine aW (s0 := ⟨tab [(10, .loc 0 0 l11.length)], ac [(0, .lst false none (List.map (D.int .i64) l11))], 1⟩) (nr [1]) ?_
     refine bQ ?_
     exact And.intro rfl rfl
   refine ak ⟨tab [(6, .loc 0 0 z19.length), (7, vb true)], ac [(0, .lst false none (List.map (D.int .i64) z19))], 1⟩ ?_ ?_
   ·
    iterate 3 refine q1 _ ?_
    exact nR [0]
   have hh := aB h
   subst hh
   refine bB ?_
   show FQ _ _ _ _
   exact eZ (.inr rfl) (bn (v := .loc 0 0 z19.length) rfl (bn (v := vb true) rfl rfl)) (RV.loc (xs := z19) (e := (D.int .i64)) rfl rfl (RV.d trivial))
theorem vL {a0 : api_Topo} {a1 : Int} {a2 : Int} {r : (Int × Bool)} (h : mT a0 a1 a2 = some r) : PCall Try.prog 28 [eapi_Topo a0, .int .i64 a1, .int .i64 a2] (.tup [.int .u16 r.1, .bool r.2]) := by
 refine PCall.introN ub (show 3 ≤ 87 by decide) ?_
 refine aW (s0 := ⟨tab [(0, vs1 a0), (1, vi a1), (2, vi a2)], ac [], 0⟩) (nr []) ?_
 refine ak ⟨tab [(1, vi a1), (2, vi a2), (3, am a0)], ac [], 0⟩ ?_ ?_
 ·
  iterate 3 refine q1 _ ?_
  exact nR []
 refine aE ?_
 refine ak ⟨tab [(1, vi a1), (2, vi a2), (3, am a0), (36, vb ((decide (a1 < 0)) || ((decide (a1 ≥ (a0.Switches.length : Int))) || ((decide (a2 < 0)) || ((decide (a2 ≥ (a0.Switches.length : Int))) || (a1 == a2))))))], ac [], 0⟩ ?_ ?_
 ·
  iterate 3 refine q1 _ ?_
  by_cases hg1 : decide (a1 < 0) = true
  ·
   iterate 5 refine qX (decide (a1 < 0)) (by rw [hg1]; decide) ?_
   refine step (v := vb true) (bv (b := decide (a1 < 0)) rfl hg1 rfl) ?_
   refine q1 _ ?_
   iterate 2 refine qX true (by decide) ?_
   refine step (v := vb true) (bv (b := true) rfl rfl rfl) ?_
   refine q1 _ ?_
   iterate 5 refine qX true (by decide) ?_
   refine step (v := vb true) (bv (b := true) rfl rfl rfl) ?_
   refine q1 _ ?_
   iterate 3 refine qX true (by decide) ?_
   refine step (v := vb true) (bv (b := true) rfl rfl rfl) ?_
   exact aK.nil' (nm [] ⟨.d _, .d _, .d _, .eq (by first | (simp [hg1]; done) | (simp_all; done) | grind), trivial⟩ trivial)
  ·
   refine qG (decide (a1 < 0)) (Bool.eq_false_iff.2 hg1) ?_
   refine q1 _ ?_
   refine qG (decide (a1 < 0)) (Bool.eq_false_iff.2 hg1) ?_
   refine q1 _ ?_
   refine qG (decide (a1 < 0)) (Bool.eq_false_iff.2 hg1) ?_
   refine q1 _ ?_
   refine qG (decide (a1 < 0)) (Bool.eq_false_iff.2 hg1) ?_
   refine step (v := vi (a0.Switches.length : Int)) (bH (xs := a0.Switches) (e := (D.int .u16)) rfl) ?_
   refine qG (decide (a1 < 0)) (Bool.eq_false_iff.2 hg1) ?_
   refine q1 _ ?_
   refine step (v := vb (decide (a1 ≥ (a0.Switches.length : Int)))) (bx (b := decide (a1 < 0)) rfl hg1 rfl) ?_
   refine q1 _ ?_
   by_cases hg2 : decide (a1 ≥ (a0.Switches.length : Int)) = true
   ·
    iterate 2 refine qX (decide (a1 ≥ (a0.Switches.length : Int))) (by rw [hg2]; decide) ?_
    refine step (v := vb true) (bv (b := decide (a1 ≥ (a0.Switches.length : Int))) rfl hg2 rfl) ?_
    refine q1 _ ?_
    iterate 5 refine qX true (by decide) ?_
    refine step (v := vb true) (bv (b := true) rfl rfl rfl) ?_
    refine q1 _ ?_
    iterate 3 refine qX true (by decide) ?_
    refine step (v := vb true) (bv (b := true) rfl rfl rfl) ?_
    exact aK.nil' (nm [] ⟨.d _, .d _, .d _, .eq (by first | (simp [hg1, hg2]; done) | (simp_all; done) | grind), trivial⟩ trivial)
   ·
    refine qG (decide (a1 ≥ (a0.Switches.length : Int))) (Bool.eq_false_iff.2 hg2) ?_
    refine q1 _ ?_
    refine qG (decide (a1 ≥ (a0.Switches.length : Int))) (Bool.eq_false_iff.2 hg2) ?_
    refine q1 _ ?_
    refine step (v := vb (decide (a2 < 0))) (bx (b := decide (a1 ≥ (a0.Switches.length : Int))) rfl hg2 rfl) ?_
    refine q1 _ ?_
    by_cases hg3 : decide (a2 < 0) = true
    ·
     iterate 5 refine qX (decide (a2 < 0)) (by rw [hg3]; decide) ?_
     refine step (v := vb true) (bv (b := decide (a2 < 0)) rfl hg3 rfl) ?_
     refine q1 _ ?_
     iterate 3 refine qX true (by decide) ?_
     refine step (v := vb true) (bv (b := true) rfl rfl rfl) ?_
     exact aK.nil' (nm [] ⟨.d _, .d _, .d _, .eq (by first | (simp [hg1, hg2, hg3]; done) | (simp_all; done) | grind), trivial⟩ trivial)
    ·
     refine qG (decide (a2 < 0)) (Bool.eq_false_iff.2 hg3) ?_
     refine q1 _ ?_
     refine qG (decide (a2 < 0)) (Bool.eq_false_iff.2 hg3) ?_
     refine q1 _ ?_
     refine qG (decide (a2 < 0)) (Bool.eq_false_iff.2 hg3) ?_
     refine q1 _ ?_
     refine qG (decide (a2 < 0)) (Bool.eq_false_iff.2 hg3) ?_
     refine step (v := vi (a0.Switches.length : Int)) (bH (xs := a0.Switches) (e := (D.int .u16)) rfl) ?_
     refine qG (decide (a2 < 0)) (Bool.eq_false_iff.2 hg3) ?_
     refine q1 _ ?_
     refine step (v := vb (decide (a2 ≥ (a0.Switches.length : Int)))) (bx (b := decide (a2 < 0)) rfl hg3 rfl) ?_
     refine q1 _ ?_
     by_cases hg4 : decide (a2 ≥ (a0.Switches.length : Int)) = true
     ·
      iterate 3 refine qX (decide (a2 ≥ (a0.Switches.length : Int))) (by rw [hg4]; decide) ?_
      refine step (v := vb true) (bv (b := decide (a2 ≥ (a0.Switches.length : Int))) rfl hg4 rfl) ?_
      exact aK.nil' (nm [] ⟨.d _, .d _, .d _, .eq (by first | (simp [hg1, hg2, hg3, hg4]; done) | (simp_all; done) | grind), trivial⟩ trivial)
     ·
      refine qG (decide (a2 ≥ (a0.Switches.length : Int))) (Bool.eq_false_iff.2 hg4) ?_
      refine q1 _ ?_
      refine qG (decide (a2 ≥ (a0.Switches.length : Int))) (Bool.eq_false_iff.2 hg4) ?_
      refine q1 _ ?_
      refine qG (decide (a2 ≥ (a0.Switches.length : Int))) (Bool.eq_false_iff.2 hg4) ?_
      refine q1 _ ?_
      refine step (v := vb (a1 == a2)) (bx (b := decide (a2 ≥ (a0.Switches.length : Int))) rfl hg4 rfl) ?_
      exact aK.nil' (nm [] ⟨.d _, .d _, .d _, .eq (by first | (simp [hg1, hg2, hg3, hg4]; done) | (simp_all; done) | grind), trivial⟩ trivial)
 by_cases hc5 : ((decide (a1 < 0)) || ((decide (a1 ≥ (a0.Switches.length : Int))) || ((decide (a2 < 0)) || ((decide (a2 ≥ (a0.Switches.length : Int))) || (a1 == a2))))) = true
 ·
  replace h := bp hc5 h
  refine aZ (t := ((decide (a1 < 0)) || ((decide (a1 ≥ (a0.Switches.length : Int))) || ((decide (a2 < 0)) || ((decide (a2 ≥ (a0.Switches.length : Int))) || (a1 == a2)))))) rfl hc5 ?_
  refine ak ⟨tab [(6, vh 0), (7, vb false)], ac [], 0⟩ ?_ ?_
  ·
   iterate 2 refine q1 _ ?_
   exact nR []
  have hh := aB h
  subst hh
  refine bB ?_
  show FQ _ _ _ _
  exact eZ (.inr rfl) (bn (v := vh 0) rfl (bn (v := vb false) rfl rfl)) (RV.d (RV.d trivial))
 ·
  replace h := bq hc5 h
  refine a8 (t := ((decide (a1 < 0)) || ((decide (a1 ≥ (a0.Switches.length : Int))) || ((decide (a2 < 0)) || ((decide (a2 ≥ (a0.Switches.length : Int))) || (a1 == a2)))))) rfl hc5 ?_
  refine ba ?_
  obtain ⟨x6, hx6, h⟩ := ap h
  obtain ⟨x7, hx7, h⟩ := ap h
  refine ak ⟨tab [(3, am a0), (8, vh x6), (9, vh x7)], ac [], 0⟩ ?_ ?_
  ·
   iterate 3 refine q1 _ ?_
   refine step (v := .d (.cptr none (.int .u16 x6) 0)) (bZ (xs := a0.Switches) (e := (D.int .u16)) hx6 rfl rfl) ?_
   iterate 4 refine q1 _ ?_
   refine step (v := .d (.cptr none (.int .u16 x7) 0)) (bZ (xs := a0.Switches) (e := (D.int .u16)) hx7 rfl rfl) ?_
   iterate 3 refine q1 _ ?_
   exact nR []
  refine aE ?_
  refine ak ⟨tab [(8, vh x6), (9, vh x7), (48, bI a0.Links), (49, vi (a0.Links.length : Int)), (50, vi 0)], ac [], 0⟩ ?_ ?_
  ·
   iterate 2 refine q1 _ ?_
   refine step (v := vi (a0.Links.length : Int)) (bH (xs := a0.Links) (e := (bW eapi_Port)) rfl) ?_
   refine q1 _ ?_
   exact nR []
  obtain ⟨q19, hl, h⟩ := ap h
  refine be ?_
  refine eJ (cg (a0.Links.length : Int)) (fun (i8 : Int) (qq : Unit) => ⟨tab [(8, vh x6), (9, vh x7), (48, bI a0.Links), (49, vi (a0.Links.length : Int)), (50, vi i8)], ac [], 0⟩) 0 (fun (qq : Unit) => ⟨tab [], ac [], 0⟩) bg ck (r := r) hl (by unfold bg; omega) ?_ ?_ ?_ ?_
  ·
   rintro i8 ⟨⟩ xr13 hinv11 hgo10 h
   show aF _ _ _ _ _ ⟨tab [(8, vh x6), (9, vh x7), (48, bI a0.Links), (49, vi (a0.Links.length : Int)), (50, vi i8)], ac [], 0⟩
   have hc12 : decide (i8 < (a0.Links.length : Int)) = true := decide_eq_true hgo10
   refine ak ⟨tab [(8, vh x6), (9, vh x7), (48, bI a0.Links), (49, vi (a0.Links.length : Int)), (50, vi i8), (51, vb (decide (i8 < (a0.Links.length : Int))))], ac [], 0⟩ ?_ ?_
   ·
    refine q1 _ ?_
    exact nR []
   refine cf 49 rfl fun hB9 => ?_
   refine aE ?_
   refine aZ (t := decide (i8 < (a0.Links.length : Int))) rfl hc12 ?_
   refine ba ?_
   refine aE ?_
   refine be ?_
   obtain ⟨x14, hx14, h⟩ := ap h
   refine ak ⟨tab [(8, vh x6), (9, vh x7), (11, .ptr 0 0 0), (48, bI a0.Links), (49, vi (a0.Links.length : Int)), (50, vi i8)], ac [(0, .var [vh x14.a0.Sw, vh x14.a0.Pt, vh x14.a1.Sw, vh x14.a1.Pt])], 1⟩ ?_ ?_
   ·
    refine step (v := .d (.cptr (some 4) (bW eapi_Port x14) 0)) (bZ (xs := a0.Links) (e := (bW eapi_Port)) hx14 rfl rfl) ?_
    refine q1 _ ?_
    refine step (v := .ptr 0 0 0) (σ' := (aj (ac []) 0 (some (.var [vh 0, vh 0, vh 0, vh 0])))) (n' := 1) rfl ?_
    refine step (v := V.undef) (σ' := (aj (aj (ac []) 0 (some (.var [vh 0, vh 0, vh 0, vh 0]))) 0 (some (.var [vh x14.a0.Sw, vh x14.a0.Pt, vh x14.a1.Sw, vh x14.a1.Pt])))) (n' := 1) rfl ?_
    exact nR [0]
   refine be ?_
   refine ak ⟨tab [(8, vh x6), (9, vh x7), (11, .ptr 0 0 0), (48, bI a0.Links), (49, vi (a0.Links.length : Int)), (50, vi i8), (54, vb ((x14.a0.Sw == x6) && (x14.a1.Sw == x7)))], ac [(0, .var [vh x14.a0.Sw, vh x14.a0.Pt, vh x14.a1.Sw, vh x14.a1.Pt])], 1⟩ ?_ ?_
   ·
    iterate 6 refine q1 _ ?_
    by_cases hg15 : (x14.a0.Sw == x6) = true
    ·
     refine qG _ hg15 ?_
     refine q1 _ ?_
     refine qG _ hg15 ?_
     refine q1 _ ?_
     refine qG _ hg15 ?_
     refine q1 _ ?_
     refine qG _ hg15 ?_
     refine q1 _ ?_
     refine qG _ hg15 ?_
     refine q1 _ ?_
     refine step (v := vb (x14.a1.Sw == x7)) (bv (b := (x14.a0.Sw == x6)) rfl hg15 rfl) ?_
     refine q1 _ ?_
     exact aK.nil' (nm [0] ⟨.d _, .d _, .pt 0, .d _, .d _, .d _, .eq (by first | (simp [hg15]; done) | (simp_all; done) | grind), trivial⟩ ⟨⟨show 0 < 1 by decide, _, rfl, .vars ⟨.d _, .d _, .d _, .d _, trivial⟩⟩, trivial⟩)
    ·
     iterate 5 refine qX _ hg15 ?_
     refine step (v := vb false) (bx (b := (x14.a0.Sw == x6)) rfl hg15 rfl) ?_
     refine q1 _ ?_
     exact aK.nil' (nm [0] ⟨.d _, .d _, .pt 0, .d _, .d _, .d _, .eq (by first | (simp [hg15]; done) | (simp_all; done) | grind), trivial⟩ ⟨⟨show 0 < 1 by decide, _, rfl, .vars ⟨.d _, .d _, .d _, .d _, trivial⟩⟩, trivial⟩)
   by_cases hc16 : ((x14.a0.Sw == x6) && (x14.a1.Sw == x7)) = true
   ·
    replace h := bp hc16 h
    refine aZ (t := ((x14.a0.Sw == x6) && (x14.a1.Sw == x7))) rfl hc16 ?_
    refine ak ⟨tab [(6, vh x14.a0.Pt), (7, vb true)], ac [], 0⟩ ?_ ?_
    ·
     iterate 5 refine q1 _ ?_
     exact nR []
    obtain ⟨r17, kr17, hr⟩ := dU (o := some (x14.a0.Pt, true)) (g := Br.ret) h
    subst hr
    have h := kr17
    have hh := aB h
    subst hh
    refine bB ?_
    refine And.intro (fun hn => nomatch hn) ?_
    intro hq
    have hq := hq.symm
    subst hq
    show FQ _ _ _ _
    exact eZ (.inr rfl) (bn (v := vh x14.a0.Pt) rfl (bn (v := vb true) rfl rfl)) (RV.d (RV.d trivial))
   ·
    replace h := bq hc16 h
    refine a8 (t := ((x14.a0.Sw == x6) && (x14.a1.Sw == x7))) rfl hc16 ?_
    refine ak ⟨tab [(8, vh x6), (9, vh x7), (11, .ptr 0 0 0), (48, bI a0.Links), (49, vi (a0.Links.length : Int)), (50, vi i8), (70, vb ((x14.a1.Sw == x6) && (x14.a0.Sw == x7)))], ac [(0, .var [vh x14.a0.Sw, vh x14.a0.Pt, vh x14.a1.Sw, vh x14.a1.Pt])], 1⟩ ?_ ?_
    ·
     iterate 6 refine q1 _ ?_
     by_cases hg17 : (x14.a1.Sw == x6) = true
     ·
      refine qG _ hg17 ?_
      refine q1 _ ?_
      refine qG _ hg17 ?_
      refine q1 _ ?_
      refine qG _ hg17 ?_
      refine q1 _ ?_
      refine qG _ hg17 ?_
      refine q1 _ ?_
      refine qG _ hg17 ?_
      refine q1 _ ?_
      refine step (v := vb (x14.a0.Sw == x7)) (bv (b := (x14.a1.Sw == x6)) rfl hg17 rfl) ?_
      refine q1 _ ?_
      exact aK.nil' (nm [0] ⟨.d _, .d _, .pt 0, .d _, .d _, .d _, .eq (by first | (simp [hg17]; done) | (simp_all; done) | grind), trivial⟩ ⟨⟨show 0 < 1 by decide, _, rfl, .vars ⟨.d _, .d _, .d _, .d _, trivial⟩⟩, trivial⟩)
     ·
      iterate 5 refine qX _ hg17 ?_
      refine step (v := vb false) (bx (b := (x14.a1.Sw == x6)) rfl hg17 rfl) ?_
      refine q1 _ ?_
      exact aK.nil' (nm [0] ⟨.d _, .d _, .pt 0, .d _, .d _, .d _, .eq (by first | (simp [hg17]; done) | (simp_all; done) | grind), trivial⟩ ⟨⟨show 0 < 1 by decide, _, rfl, .vars ⟨.d _, .d _, .d _, .d _, trivial⟩⟩, trivial⟩)
    by_cases hc18 : ((x14.a1.Sw == x6) && (x14.a0.Sw == x7)) = true
    ·
     replace h := bp hc18 h
     refine aZ (t := ((x14.a1.Sw == x6) && (x14.a0.Sw == x7))) rfl hc18 ?_
     refine ak ⟨tab [(6, vh x14.a1.Pt), (7, vb true)], ac [], 0⟩ ?_ ?_
     ·
      iterate 5 refine q1 _ ?_
      exact nR []
     obtain ⟨r19, kr19, hr⟩ := dU (o := some (x14.a1.Pt, true)) (g := Br.ret) h
     subst hr
     have h := kr19
     have hh := aB h
     subst hh
     refine bB ?_
     refine And.intro (fun hn => nomatch hn) ?_
     intro hq
     have hq := hq.symm
     subst hq
     show FQ _ _ _ _
     exact eZ (.inr rfl) (bn (v := vh x14.a1.Pt) rfl (bn (v := vb true) rfl rfl)) (RV.d (RV.d trivial))
    ·
     replace h := bq hc18 h
     refine a8 (t := ((x14.a1.Sw == x6) && (x14.a0.Sw == x7))) rfl hc18 ?_
     refine ba ?_
     have hh := aB h
     subst hh
     refine bw ⟨tab [(8, vh x6), (9, vh x7), (48, bI a0.Links), (49, vi (a0.Links.length : Int)), (50, vi (i8 + 1))], ac [], 0⟩ ?_ ?_
     ·
      refine step (v := vi (i8 + 1)) (cd (ce hinv11 hgo10 hB9) rfl rfl) ?_
      refine q1 _ ?_
      exact nR []
     exact And.intro rfl rfl
  ·
   rintro i8 ⟨⟩ hinv11 hgo10
   show aF _ _ _ _ _ ⟨tab [(8, vh x6), (9, vh x7), (48, bI a0.Links), (49, vi (a0.Links.length : Int)), (50, vi i8)], ac [], 0⟩
   have hc12 : ¬ (decide (i8 < (a0.Links.length : Int)) = true) := fun hq => hgo10 (of_decide_eq_true hq)
   refine ak ⟨tab [(8, vh x6), (9, vh x7), (48, bI a0.Links), (49, vi (a0.Links.length : Int)), (50, vi i8), (51, vb (decide (i8 < (a0.Links.length : Int))))], ac [], 0⟩ ?_ ?_
   ·
    refine q1 _ ?_
    exact nR []
   refine aE ?_
   refine a8 (t := decide (i8 < (a0.Links.length : Int))) rfl hc12 ?_
   refine aW (s0 := ⟨tab [], ac [], 0⟩) (nr []) ?_
   refine bQ ?_
   exact And.intro rfl rfl
  ·
   intro r' hq
   subst hq
   exact aB h
  rintro ⟨⟩ rfl
  refine ak ⟨tab [(6, vh 0), (7, vb false)], ac [], 0⟩ ?_ ?_
  ·
   iterate 2 refine q1 _ ?_
   exact nR []
  have hh := aB h
  subst hh
  refine bB ?_
  show FQ _ _ _ _
  exact eZ (.inr rfl) (bn (v := vh 0) rfl (bn (v := vb false) rfl rfl)) (RV.d (RV.d trivial))
theorem mN {a0 : (List Int)} {a1 : (List Int)} {r : Bool} (h : gU a0 a1 = some r) : PCall Try.prog 25 [eL none (D.int .i64) a0, eL none (D.int .i64) a1] (.bool r) := by
 refine PCall.introN ue (show 2 ≤ 26 by decide) ?_
 refine aW (s0 := ⟨tab [(0, aw a0), (1, aw a1)], ac [], 0⟩) (nr []) ?_
 refine ak ⟨tab [(0, aw a0), (1, aw a1)], ac [], 0⟩ ?_ ?_
 ·
  refine q1 _ ?_
  exact nR []
 refine aE ?_
 refine ak ⟨tab [(0, aw a0), (1, aw a1), (10, vb ((a0.length : Int) != (a1.length : Int)))], ac [], 0⟩ ?_ ?_
 ·
  refine q1 _ ?_
  refine step (v := vi (a0.length : Int)) (bH (xs := a0) (e := (D.int .i64)) rfl) ?_
  refine q1 _ ?_
  refine step (v := vi (a1.length : Int)) (bH (xs := a1) (e := (D.int .i64)) rfl) ?_
  refine q1 _ ?_
  exact nR []
 by_cases hc1 : ((a0.length : Int) != (a1.length : Int)) = true
 ·
  replace h := bp hc1 h
  refine aZ (t := ((a0.length : Int) != (a1.length : Int))) rfl hc1 ?_
  refine ak ⟨tab [(4, vb false)], ac [], 0⟩ ?_ ?_
  ·
   refine q1 _ ?_
   exact nR []
  have hh := aB h
  subst hh
  refine bB ?_
  show FQ _ _ _ _
  exact bR (.inr rfl) (bn (v := vb false) rfl rfl) (RV.d trivial)
 ·
  replace h := bq hc1 h
  refine a8 (t := ((a0.length : Int) != (a1.length : Int))) rfl hc1 ?_
  refine ba ?_
  refine aE ?_
  refine ak ⟨tab [(0, aw a0), (1, aw a1), (12, vi (a0.length : Int)), (13, vi 0)], ac [], 0⟩ ?_ ?_
  ·
   refine q1 _ ?_
   refine step (v := vi (a0.length : Int)) (bH (xs := a0) (e := (D.int .i64)) rfl) ?_
   refine q1 _ ?_
   exact nR []
  obtain ⟨q11, hl, h⟩ := ap h
  refine be ?_
  refine eJ (cg (a0.length : Int)) (fun (i2 : Int) (qq : Unit) => ⟨tab [(0, aw a0), (1, aw a1), (12, vi (a0.length : Int)), (13, vi i2)], ac [], 0⟩) 0 (fun (qq : Unit) => ⟨tab [], ac [], 0⟩) bg ck (r := r) hl (by unfold bg; omega) ?_ ?_ ?_ ?_
  ·
   rintro i2 ⟨⟩ xr7 hinv5 hgo4 h
   show aF _ _ _ _ _ ⟨tab [(0, aw a0), (1, aw a1), (12, vi (a0.length : Int)), (13, vi i2)], ac [], 0⟩
   have hc6 : decide (i2 < (a0.length : Int)) = true := decide_eq_true hgo4
   refine ak ⟨tab [(0, aw a0), (1, aw a1), (12, vi (a0.length : Int)), (13, vi i2), (14, vb (decide (i2 < (a0.length : Int))))], ac [], 0⟩ ?_ ?_
   ·
    refine q1 _ ?_
    exact nR []
   refine cf 12 rfl fun hB3 => ?_
   refine aE ?_
   refine aZ (t := decide (i2 < (a0.length : Int))) rfl hc6 ?_
   refine ba ?_
   refine aE ?_
   refine be ?_
   refine ak ⟨tab [(0, aw a0), (1, aw a1), (5, vi i2), (12, vi (a0.length : Int)), (13, vi i2)], ac [], 0⟩ ?_ ?_
   ·
    iterate 2 refine q1 _ ?_
    exact nR []
   obtain ⟨x8, hx8, h⟩ := ap h
   obtain ⟨x9, hx9, h⟩ := ap h
   refine ak ⟨tab [(0, aw a0), (1, aw a1), (12, vi (a0.length : Int)), (13, vi i2), (24, vb (x8 != x9))], ac [], 0⟩ ?_ ?_
   ·
    iterate 2 refine q1 _ ?_
    refine step (v := .d (.cptr none (.int .i64 x8) 0)) (bZ (xs := a0) (e := (D.int .i64)) hx8 rfl rfl) ?_
    iterate 3 refine q1 _ ?_
    refine step (v := .d (.cptr none (.int .i64 x9) 0)) (bZ (xs := a1) (e := (D.int .i64)) hx9 rfl rfl) ?_
    iterate 2 refine q1 _ ?_
    exact nR []
   by_cases hc10 : (x8 != x9) = true
   ·
    replace h := bp hc10 h
    refine aZ (t := (x8 != x9)) rfl hc10 ?_
    refine ak ⟨tab [(4, vb false)], ac [], 0⟩ ?_ ?_
    ·
     refine q1 _ ?_
     exact nR []
    obtain ⟨r11, kr11, hr⟩ := dU (o := some false) (g := Br.ret) h
    subst hr
    have h := kr11
    have hh := aB h
    subst hh
    refine bB ?_
    refine And.intro (fun hn => nomatch hn) ?_
    intro hq
    have hq := hq.symm
    subst hq
    show FQ _ _ _ _
    exact bR (.inr rfl) (bn (v := vb false) rfl rfl) (RV.d trivial)
   ·
    replace h := bq hc10 h
    refine a8 (t := (x8 != x9)) rfl hc10 ?_
    refine ba ?_
    have hh := aB h
    subst hh
    refine bw ⟨tab [(0, aw a0), (1, aw a1), (12, vi (a0.length : Int)), (13, vi (i2 + 1))], ac [], 0⟩ ?_ ?_
    ·
     refine step (v := vi (i2 + 1)) (cd (ce hinv5 hgo4 hB3) rfl rfl) ?_
     refine q1 _ ?_
     exact nR []
    exact And.intro rfl rfl
  ·
   rintro i2 ⟨⟩ hinv5 hgo4
   show aF _ _ _ _ _ ⟨tab [(0, aw a0), (1, aw a1), (12, vi (a0.length : Int)), (13, vi i2)], ac [], 0⟩
   have hc6 : ¬ (decide (i2 < (a0.length : Int)) = true) := fun hq => hgo4 (of_decide_eq_true hq)
   refine ak ⟨tab [(0, aw a0), (1, aw a1), (12, vi (a0.length : Int)), (13, vi i2), (14, vb (decide (i2 < (a0.length : Int))))], ac [], 0⟩ ?_ ?_
   ·
    refine q1 _ ?_
    exact nR []
   refine aE ?_
   refine a8 (t := decide (i2 < (a0.length : Int))) rfl hc6 ?_
   refine aW (s0 := ⟨tab [], ac [], 0⟩) (nr []) ?_
   refine bQ ?_
   exact And.intro rfl rfl
  ·
   intro r' hq
   subst hq
   exact aB h
  rintro ⟨⟩ rfl
  refine ak ⟨tab [(4, vb true)], ac [], 0⟩ ?_ ?_
  ·
   refine q1 _ ?_
   exact nR []
  have hh := aB h
  subst hh
  refine bB ?_
  show FQ _ _ _ _
  exact bR (.inr rfl) (bn (v := vb true) rfl rfl) (RV.d trivial)
theorem vM {a0 : api_Topo} {a1 : Int} {a2 : Int} {r : Int} (h : mV a0 a1 a2 = some r) : PCall Try.prog 26 [eapi_Topo a0, .int .i64 a1, .int .i64 a2] (.int .i64 r) := by
 refine PCall.introN ug (show 3 ≤ 26 by decide) ?_
 refine aW (s0 := ⟨tab [(0, vs1 a0), (1, vi a1), (2, vi a2)], ac [], 0⟩) (nr []) ?_
 refine ak ⟨tab [(1, vi a1), (2, vi a2), (3, am a0)], ac [], 0⟩ ?_ ?_
 ·
  iterate 2 refine q1 _ ?_
  exact nR []
 obtain ⟨r1, hr1, h⟩ := ap h
 refine ak ⟨tab [(1, vi a1), (2, vi a2), (7, .d (eL none (eL none (D.int .i64)) r1))], ac [], 0⟩ ?_ ?_
 ·
  refine q1 _ ?_
  refine bz (r := eL none (eL none (D.int .i64)) r1) (aL (aL aS.nil')) (gT hr1) ?_
  refine q1 _ ?_
  exact nR []
 refine aE ?_
 obtain ⟨r2, hr2, h⟩ := ap h
 obtain ⟨y5, hv, h⟩ := ap h
 refine ak ⟨tab [(1, vi a1), (2, vi a2), (7, .d (eL none (eL none (D.int .i64)) r1)), (19, vb y5)], ac [], 0⟩ ?_ ?_
 ·
  iterate 2 refine q1 _ ?_
  refine bz (r := .bool r2) (aL (aL aS.nil')) (iA hr2) ?_
  iterate 2 refine q1 _ ?_
  by_cases hg3 : (!r2) = true
  ·
   replace hv := bp hg3 hv
   iterate 4 refine qX (!r2) (by rw [hg3]; decide) ?_
   refine step (v := vb true) (bv (b := (!r2)) rfl hg3 rfl) ?_
   have hh := aB hv
   subst hh
   exact nR []
  ·
   replace hv := bq hg3 hv
   obtain ⟨r4, hr4, hv⟩ := ap hv
   refine qG (!r2) (Bool.eq_false_iff.2 hg3) ?_
   refine q1 _ ?_
   refine qG (!r2) (Bool.eq_false_iff.2 hg3) ?_
   refine q1 _ ?_
   refine qG (!r2) (Bool.eq_false_iff.2 hg3) ?_
   refine bz (r := .bool r4) (aL (aL aS.nil')) (iA hr4) ?_
   refine qG (!r2) (Bool.eq_false_iff.2 hg3) ?_
   refine q1 _ ?_
   refine step (v := vb (!r4)) (bx (b := (!r2)) rfl hg3 rfl) ?_
   have hh := aB hv
   subst hh
   exact nR []
 by_cases hc7 : y5 = true
 ·
  replace h := bp hc7 h
  refine aZ (t := y5) rfl hc7 ?_
  refine ak ⟨tab [(6, vi (-1))], ac [], 0⟩ ?_ ?_
  ·
   refine q1 _ ?_
   exact nR []
  have hh := aB h
  subst hh
  refine bB ?_
  show FQ _ _ _ _
  exact bR (.inr rfl) (bn (v := vi (-1)) rfl rfl) (RV.d trivial)
 ·
  replace h := bq hc7 h
  refine a8 (t := y5) rfl hc7 ?_
  refine ba ?_
  obtain ⟨r8, hr8, h⟩ := ap h
  obtain ⟨x9, hx9, h⟩ := ap h
  refine ak ⟨tab [(6, vi x9)], ac [], 0⟩ ?_ ?_
  ·
   iterate 2 refine q1 _ ?_
   refine bz (r := eL none (D.int .i64) r8) (aL (aL aS.nil')) (jr hr8) ?_
   refine q1 _ ?_
   refine step (v := .d (.cptr none (.int .i64 x9) 0)) (bZ (xs := r8) (e := (D.int .i64)) hx9 rfl rfl) ?_
   iterate 2 refine q1 _ ?_
   exact nR []
  have hh := aB h
  subst hh
  refine bB ?_
  show FQ _ _ _ _
  exact bR (.inr rfl) (bn (v := vi x9) rfl rfl) (RV.d trivial)
theorem pI {a0 : api_Topo} {r : (List Int)} (h : iE a0 = some r) : PCall Try.prog 35 [eapi_Topo a0] (eL none (D.int .i64) r) := by
 refine PCall.introN uj (show 1 ≤ 54 by decide) ?_
 refine aW (s0 := ⟨tab [(0, vs1 a0)], ac [], 0⟩) (nr []) ?_
 refine ak ⟨tab [(1, am a0)], ac [], 0⟩ ?_ ?_
 ·
  iterate 2 refine q1 _ ?_
  exact nR []
 refine ak ⟨tab [(1, am a0), (3, .d (.nils))], ac [], 0⟩ ?_ ?_
 ·
  refine q1 _ ?_
  exact nR []
 refine aE ?_
 refine ak ⟨tab [(1, am a0), (3, .d (.nils)), (11, bI a0.Links), (12, vi (a0.Links.length : Int)), (13, vi 0)], ac [], 0⟩ ?_ ?_
 ·
  iterate 2 refine q1 _ ?_
  refine step (v := vi (a0.Links.length : Int)) (bH (xs := a0.Links) (e := (bW eapi_Port)) rfl) ?_
  refine q1 _ ?_
  exact nR []
 obtain ⟨z21, hl, h⟩ := ap h
 refine aW (s0 := ⟨tab [(1, am a0), (3, .loc 0 0 (([] : List Int).length)), (11, bI a0.Links), (12, vi (a0.Links.length : Int)), (13, vi 0)], ac [(0, .lst false none (List.map (D.int .i64) ([] : List Int)))], 1⟩) (bu.trans (s2 := ⟨tab [(1, am a0), (3, .loc 0 0 (([] : List Int).length)), (11, bI a0.Links), (12, vi (a0.Links.length : Int)), (13, vi 0)], ac [(0, .lst false none (List.map (D.int .i64) ([] : List Int)))], 1⟩) (ki 3 false none rfl) (nr [0])) ?_
 refine be ?_
 refine dc (cg (a0.Links.length : Int)) (fun (i2 : Int) (qq : (List Int)) => ⟨tab [(1, am a0), (3, .loc 0 0 qq.length), (11, bI a0.Links), (12, vi (a0.Links.length : Int)), (13, vi i2)], ac [(0, .lst false none (List.map (D.int .i64) qq))], 1⟩) 0 (fun (qq : (List Int)) => ⟨tab [(3, .loc 0 0 qq.length)], ac [(0, .lst false none (List.map (D.int .i64) qq))], 1⟩) bg ck hl (by unfold bg; omega) ?_ ?_ ?_
 ·
  rintro i2 l1 xr7 hinv5 hgo4 h
  show aF _ _ _ _ _ ⟨tab [(1, am a0), (3, .loc 0 0 l1.length), (11, bI a0.Links), (12, vi (a0.Links.length : Int)), (13, vi i2)], ac [(0, .lst false none (List.map (D.int .i64) l1))], 1⟩
  have hc6 : decide (i2 < (a0.Links.length : Int)) = true := decide_eq_true hgo4
  refine ak ⟨tab [(1, am a0), (3, .loc 0 0 l1.length), (11, bI a0.Links), (12, vi (a0.Links.length : Int)), (13, vi i2), (14, vb (decide (i2 < (a0.Links.length : Int))))], ac [(0, .lst false none (List.map (D.int .i64) l1))], 1⟩ ?_ ?_
  ·
   refine q1 _ ?_
   exact nR [0]
  refine cf 12 rfl fun hB3 => ?_
  refine aE ?_
  refine aZ (t := decide (i2 < (a0.Links.length : Int))) rfl hc6 ?_
  refine ba ?_
  obtain ⟨l19, hv, h⟩ := ap h
  refine eV ⟨tab [(1, am a0), (3, .loc 0 0 l19.length), (11, bI a0.Links), (12, vi (a0.Links.length : Int)), (13, vi i2)], ac [(0, .lst false none (List.map (D.int .i64) l19))], 1⟩ ?_ ?_
  ·
   replace h := hv
   refine be ?_
   obtain ⟨x8, hx8, h⟩ := ap h
   refine ak ⟨tab [(1, am a0), (3, .loc 0 0 l1.length), (4, vi i2), (5, .ptr 1 0 0), (11, bI a0.Links), (12, vi (a0.Links.length : Int)), (13, vi i2)], ac [(0, .lst false none (List.map (D.int .i64) l1)), (1, .var [vh x8.a0.Sw, vh x8.a0.Pt, vh x8.a1.Sw, vh x8.a1.Pt])], 2⟩ ?_ ?_
   ·
    refine q1 _ ?_
    refine step (v := .d (.cptr (some 4) (bW eapi_Port x8) 0)) (bZ (xs := a0.Links) (e := (bW eapi_Port)) hx8 rfl rfl) ?_
    refine q1 _ ?_
    refine step (v := .ptr 1 0 0) (σ' := (aj (ac [(0, .lst false none (List.map (D.int .i64) l1))]) 1 (some (.var [vh 0, vh 0, vh 0, vh 0])))) (n' := 2) rfl ?_
    refine q1 _ ?_
    refine step (v := V.undef) (σ' := (aj (aj (ac [(0, .lst false none (List.map (D.int .i64) l1))]) 1 (some (.var [vh 0, vh 0, vh 0, vh 0]))) 1 (some (.var [vh x8.a0.Sw, vh x8.a0.Pt, vh x8.a1.Sw, vh x8.a1.Pt])))) (n' := 2) rfl ?_
    exact nR [0, 1]
   obtain ⟨r9, hr9, h⟩ := ap h
   refine ak ⟨tab [(1, am a0), (3, .loc 0 0 l1.length), (4, vi i2), (5, .ptr 1 0 0), (6, vi r9.1), (11, bI a0.Links), (12, vi (a0.Links.length : Int)), (13, vi i2)], ac [(0, .lst false none (List.map (D.int .i64) l1)), (1, .var [vh x8.a0.Sw, vh x8.a0.Pt, vh x8.a1.Sw, vh x8.a1.Pt])], 2⟩ ?_ ?_
   ·
    iterate 4 refine q1 _ ?_
    refine bz (r := .tup [.int .i64 r9.1, .bool r9.2]) (aL (aL aS.nil')) (kE hr9) ?_
    iterate 5 refine q1 _ ?_
    exact nR [0, 1]
   obtain ⟨r10, hr10, h⟩ := ap h
   refine ak ⟨tab [(1, am a0), (3, .loc 0 0 l1.length), (4, vi i2), (6, vi r9.1), (8, vi r10.1), (11, bI a0.Links), (12, vi (a0.Links.length : Int)), (13, vi i2)], ac [(0, .lst false none (List.map (D.int .i64) l1))], 1⟩ ?_ ?_
   ·
    iterate 4 refine q1 _ ?_
    refine bz (r := .tup [.int .i64 r10.1, .bool r10.2]) (aL (aL aS.nil')) (kE hr10) ?_
    iterate 5 refine q1 _ ?_
    exact nR [0]
   obtain ⟨y15, hv, h⟩ := ap h
   refine ak ⟨tab [(1, am a0), (3, .loc 0 0 l1.length), (4, vi i2), (11, bI a0.Links), (12, vi (a0.Links.length : Int)), (13, vi i2), (47, vb y15)], ac [(0, .lst false none (List.map (D.int .i64) l1))], 1⟩ ?_ ?_
   ·
    iterate 4 refine q1 _ ?_
    by_cases hg11 : (r9.1 != r10.1) = true
    ·
     replace hv := bp hg11 hv
     obtain ⟨r12, hr12, hv⟩ := ap hv
     obtain ⟨r13, hr13, hv⟩ := ap hv
     obtain ⟨x14, hx14, hv⟩ := ap hv
     refine qG _ hg11 ?_
     refine q1 _ ?_
     refine qG _ hg11 ?_
     refine q1 _ ?_
     refine qG _ hg11 ?_
     refine bz (r := eL none (eL none (D.int .i64)) r12) (aL (aL aS.nil')) (gT hr12) ?_
     refine qG _ hg11 ?_
     refine q1 _ ?_
     refine qG _ hg11 ?_
     refine bz (r := eL none (D.int .i64) r13) (aL (aL aS.nil')) (jr hr13) ?_
     refine qG _ hg11 ?_
     refine q1 _ ?_
     refine qG _ hg11 ?_
     refine step (v := .d (.cptr none (.int .i64 x14) 0)) (bZ (xs := r13) (e := (D.int .i64)) hx14 rfl rfl) ?_
     refine qG _ hg11 ?_
     refine q1 _ ?_
     refine qG _ hg11 ?_
     refine q1 _ ?_
     refine step (v := vb (decide (x14 < 0))) (bv (b := (r9.1 != r10.1)) rfl hg11 rfl) ?_
     have hh := aB hv
     subst hh
     exact nR [0]
    ·
     replace hv := bq hg11 hv
     iterate 9 refine qX _ hg11 ?_
     refine step (v := vb false) (bx (b := (r9.1 != r10.1)) rfl hg11 rfl) ?_
     have hh := aB hv
     subst hh
     exact nR [0]
   by_cases hc17 : y15 = true
   ·
    replace h := bp hc17 h
    refine aZ (t := y15) rfl hc17 ?_
    obtain ⟨l18, hl18, h⟩ := ap h
    have hh := aB h
    subst hh
    refine bw ⟨tab [(1, am a0), (3, .loc 0 0 l18.length), (11, bI a0.Links), (12, vi (a0.Links.length : Int)), (13, vi i2)], ac [(0, .lst false none (List.map (D.int .i64) l18))], 1⟩ ?_ ?_
    ·
     iterate 3 refine q1 _ ?_
     refine step (v := .loc 1 0 l18.length) (σ' := (aj (aj (ac [(0, .lst false none (List.map (D.int .i64) l1))]) 0 none) 1 (some (.lst false none (List.map (D.int .i64) l18))))) (n' := 2) (gM (xs := l1) (ys := ([i2] : List Int)) (e := (D.int .i64)) hl18 rfl rfl rfl (gL (xs := ([i2] : List Int)) (e := (D.int .i64)) rfl)) ?_
     refine q1 _ ?_
     exact nR [1]
    exact And.intro rfl rfl
   ·
    replace h := bq hc17 h
    refine a8 (t := y15) rfl hc17 ?_
    have hh := aB h
    subst hh
    refine aW (s0 := ⟨tab [(1, am a0), (3, .loc 0 0 l1.length), (11, bI a0.Links), (12, vi (a0.Links.length : Int)), (13, vi i2)], ac [(0, .lst false none (List.map (D.int .i64) l1))], 1⟩) (nr [0]) ?_
    refine ba ?_
    exact And.intro rfl rfl
  have hh := aB h
  subst hh
  refine bw ⟨tab [(1, am a0), (3, .loc 0 0 l19.length), (11, bI a0.Links), (12, vi (a0.Links.length : Int)), (13, vi (i2 + 1))], ac [(0, .lst false none (List.map (D.int .i64) l19))], 1⟩ ?_ ?_
  ·
   refine step (v := vi (i2 + 1)) (cd (ce hinv5 hgo4 hB3) rfl rfl) ?_
   refine q1 _ ?_
   exact nR [0]
  exact And.intro rfl rfl
 ·
  rintro i2 l1 hinv5 hgo4
  show aF _ _ _ _ _ ⟨tab [(1, am a0), (3, .loc 0 0 l1.length), (11, bI a0.Links), (12, vi (a0.Links.length : Int)), (13, vi i2)], ac [(0, .lst false none (List.map (D.int .i64) l1))], 1⟩
  have hc6 : ¬ (decide (i2 < (a0.Links.length : Int)) = true) := fun hq => hgo4 (of_decide_eq_true hq)
  refine ak ⟨tab [(1, am a0), (3, .loc 0 0 l1.length), (11, bI a0.Links), (12, vi (a0.Links.length : Int)), (13, vi i2), (14, vb (decide (i2 < (a0.Links.length : Int))))], ac [(0, .lst false none (List.map (D.int .i64) l1))], 1⟩ ?_ ?_
  ·
   refine q1 _ ?_
   exact nR [0]
  refine aE ?_
  refine a8 (t := decide (i2 < (a0.Links.length : Int))) rfl hc6 ?_
  refine aW (s0 := ⟨tab [(3, .loc 0 0 l1.length)], ac [(0, .lst false none (List.map (D.int .i64) l1))], 1⟩) (nr [0]) ?_
  refine bQ ?_
  exact And.intro rfl rfl
 refine ak ⟨tab [(2, .loc 0 0 z21.length)], ac [(0, .lst false none (List.map (D.int .i64) z21))], 1⟩ ?_ ?_
 ·
  iterate 2 refine q1 _ ?_
  exact nR [0]
 have hh := aB h
 subst hh
 refine bB ?_
 show FQ _ _ _ _
 exact bR (.inr rfl) (bn (v := .loc 0 0 z21.length) rfl rfl) (RV.loc (xs := z21) (e := (D.int .i64)) rfl rfl trivial)
theorem vN  {r : Bool} (h : kL  = some r) : PCall Try.prog 21 [] (.bool r) := by
 refine PCall.introN um (show 0 ≤ 49 by decide) ?_
 refine aW (s0 := ⟨tab [], ac [], 0⟩) (nr []) ?_
 refine ak ⟨tab [], ac [], 0⟩ ?_ ?_
 ·
  refine q1 _ ?_
  exact nR []
 refine ak ⟨tab [(1, .ptr 0 0 0)], ac [(0, .var [dz ([5, 6, 7] : List Int), bI ([(A2.mk (api_Port.mk 5 1) (api_Port.mk 6 1)), (A2.mk (api_Port.mk 7 1) (api_Port.mk 6 2))] : List (A2 api_Port)), b8 []])], 1⟩ ?_ ?_
 ·
  refine q1 _ ?_
  refine step (v := iy (api_Port.mk 5 1)) (gO (ds := [.int .u16 5, .int .u16 1]) rfl) ?_
  refine step (v := iy (api_Port.mk 6 1)) (gO (ds := [.int .u16 6, .int .u16 1]) rfl) ?_
  refine step (v := .d (bW eapi_Port (A2.mk (api_Port.mk 5 1) (api_Port.mk 6 1)))) (gO (ds := [.int .u16 5, .int .u16 1, .int .u16 6, .int .u16 1]) rfl) ?_
  refine step (v := iy (api_Port.mk 7 1)) (gO (ds := [.int .u16 7, .int .u16 1]) rfl) ?_
  refine step (v := iy (api_Port.mk 6 2)) (gO (ds := [.int .u16 6, .int .u16 2]) rfl) ?_
  refine step (v := .d (bW eapi_Port (A2.mk (api_Port.mk 7 1) (api_Port.mk 6 2)))) (gO (ds := [.int .u16 7, .int .u16 1, .int .u16 6, .int .u16 2]) rfl) ?_
  refine q1 _ ?_
  refine step (v := vs1 (api_Topo.mk ([5, 6, 7] : List Int) ([(A2.mk (api_Port.mk 5 1) (api_Port.mk 6 1)), (A2.mk (api_Port.mk 7 1) (api_Port.mk 6 2))] : List (A2 api_Port)) [])) (gO (ds := [eL none (D.int .u16) ([5, 6, 7] : List Int), eL (some 4) (bW eapi_Port) ([(A2.mk (api_Port.mk 5 1) (api_Port.mk 6 1)), (A2.mk (api_Port.mk 7 1) (api_Port.mk 6 2))] : List (A2 api_Port)), eL (some 2) eapi_Port []]) rfl) ?_
  refine step (v := .ptr 0 0 0) (σ' := (aj (ac []) 0 (some (.var [dz [], bI [], b8 []])))) (n' := 1) rfl ?_
  refine step (v := V.undef) (σ' := (aj (aj (ac []) 0 (some (.var [dz [], bI [], b8 []]))) 0 (some (.var [dz ([5, 6, 7] : List Int), bI ([(A2.mk (api_Port.mk 5 1) (api_Port.mk 6 1)), (A2.mk (api_Port.mk 7 1) (api_Port.mk 6 2))] : List (A2 api_Port)), b8 []])))) (n' := 1) rfl ?_
  exact nR [0]
 obtain ⟨r1, hr1, h⟩ := ap h
 refine ak ⟨tab [(1, .ptr 0 0 0), (2, aw r1.1), (3, vb r1.2)], ac [(0, .var [dz ([5, 6, 7] : List Int), bI ([(A2.mk (api_Port.mk 5 1) (api_Port.mk 6 1)), (A2.mk (api_Port.mk 7 1) (api_Port.mk 6 2))] : List (A2 api_Port)), b8 []])], 1⟩ ?_ ?_
 ·
  refine step (v := vs1 (api_Topo.mk ([5, 6, 7] : List Int) ([(A2.mk (api_Port.mk 5 1) (api_Port.mk 6 1)), (A2.mk (api_Port.mk 7 1) (api_Port.mk 6 2))] : List (A2 api_Port)) [])) (km (ds := [eL none (D.int .u16) ([5, 6, 7] : List Int), eL (some 4) (bW eapi_Port) ([(A2.mk (api_Port.mk 5 1) (api_Port.mk 6 1)), (A2.mk (api_Port.mk 7 1) (api_Port.mk 6 2))] : List (A2 api_Port)), eL (some 2) eapi_Port []]) rfl rfl (show 3 ≤ 3 by decide) rfl) ?_
  refine bz (r := .tup [eL none (D.int .i64) r1.1, .bool r1.2]) (aL (aL (aL aS.nil'))) (pH hr1) ?_
  iterate 5 refine q1 _ ?_
  exact nR [0]
 obtain ⟨r2, hr2, h⟩ := ap h
 refine ak ⟨tab [(1, .ptr 0 0 0), (2, aw r1.1), (3, vb r1.2), (4, vh r2.1), (5, vb r2.2)], ac [(0, .var [dz ([5, 6, 7] : List Int), bI ([(A2.mk (api_Port.mk 5 1) (api_Port.mk 6 1)), (A2.mk (api_Port.mk 7 1) (api_Port.mk 6 2))] : List (A2 api_Port)), b8 []])], 1⟩ ?_ ?_
 ·
  refine step (v := vs1 (api_Topo.mk ([5, 6, 7] : List Int) ([(A2.mk (api_Port.mk 5 1) (api_Port.mk 6 1)), (A2.mk (api_Port.mk 7 1) (api_Port.mk 6 2))] : List (A2 api_Port)) [])) (km (ds := [eL none (D.int .u16) ([5, 6, 7] : List Int), eL (some 4) (bW eapi_Port) ([(A2.mk (api_Port.mk 5 1) (api_Port.mk 6 1)), (A2.mk (api_Port.mk 7 1) (api_Port.mk 6 2))] : List (A2 api_Port)), eL (some 2) eapi_Port []]) rfl rfl (show 3 ≤ 3 by decide) rfl) ?_
  refine bz (r := .tup [.int .u16 r2.1, .bool r2.2]) (aL (aL (aL aS.nil'))) (vL hr2) ?_
  iterate 5 refine q1 _ ?_
  exact nR [0]
 obtain ⟨y11, hv, h⟩ := ap h
 refine ak ⟨tab [(0, vb y11)], ac [], 0⟩ ?_ ?_
 ·
  iterate 2 refine q1 _ ?_
  by_cases hg3 : r1.2 = true
  ·
   replace hv := bp hg3 hv
   refine qG _ hg3 ?_
   refine q1 _ ?_
   refine step (v := vb r2.2) (bv (b := r1.2) rfl hg3 rfl) ?_
   refine q1 _ ?_
   by_cases hg4 : r2.2 = true
   ·
    replace hv := bp hg4 hv
    obtain ⟨r5, hr5, hv⟩ := ap hv
    refine qG _ hg4 ?_
    refine q1 _ ?_
    refine qG _ hg4 ?_
    refine q1 _ ?_
    refine qG _ hg4 ?_
    refine bz (r := .bool r5) (aL (aL aS.nil')) (mN hr5) ?_
    refine step (v := vb r5) (bv (b := r2.2) rfl hg4 rfl) ?_
    refine q1 _ ?_
    by_cases hg6 : r5 = true
    ·
     replace hv := bp hg6 hv
     refine qG _ hg6 ?_
     refine q1 _ ?_
     refine qG _ hg6 ?_
     refine q1 _ ?_
     refine step (v := vb (r2.1 == 2)) (bv (b := r5) rfl hg6 rfl) ?_
     refine q1 _ ?_
     by_cases hg7 : (r2.1 == 2) = true
     ·
      replace hv := bp hg7 hv
      obtain ⟨r8, hr8, hv⟩ := ap hv
      refine qG _ hg7 ?_
      refine step (v := vs1 (api_Topo.mk ([5, 6, 7] : List Int) ([(A2.mk (api_Port.mk 5 1) (api_Port.mk 6 1)), (A2.mk (api_Port.mk 7 1) (api_Port.mk 6 2))] : List (A2 api_Port)) [])) (km (ds := [eL none (D.int .u16) ([5, 6, 7] : List Int), eL (some 4) (bW eapi_Port) ([(A2.mk (api_Port.mk 5 1) (api_Port.mk 6 1)), (A2.mk (api_Port.mk 7 1) (api_Port.mk 6 2))] : List (A2 api_Port)), eL (some 2) eapi_Port []]) rfl rfl (show 3 ≤ 3 by decide) rfl) ?_
      refine qG _ hg7 ?_
      refine bz (r := .int .i64 r8) (aL (aL (aL aS.nil'))) (vM hr8) ?_
      refine qG _ hg7 ?_
      refine q1 _ ?_
      refine step (v := vb (r8 == 2)) (bv (b := (r2.1 == 2)) rfl hg7 rfl) ?_
      refine q1 _ ?_
      by_cases hg9 : (r8 == 2) = true
      ·
       replace hv := bp hg9 hv
       obtain ⟨r10, hr10, hv⟩ := ap hv
       refine qG _ hg9 ?_
       refine step (v := vs1 (api_Topo.mk ([5, 6, 7] : List Int) ([(A2.mk (api_Port.mk 5 1) (api_Port.mk 6 1)), (A2.mk (api_Port.mk 7 1) (api_Port.mk 6 2))] : List (A2 api_Port)) [])) (km (ds := [eL none (D.int .u16) ([5, 6, 7] : List Int), eL (some 4) (bW eapi_Port) ([(A2.mk (api_Port.mk 5 1) (api_Port.mk 6 1)), (A2.mk (api_Port.mk 7 1) (api_Port.mk 6 2))] : List (A2 api_Port)), eL (some 2) eapi_Port []]) rfl rfl (show 3 ≤ 3 by decide) rfl) ?_
       refine qG _ hg9 ?_
       refine bz (r := eL none (D.int .i64) r10) (aL aS.nil') (pI hr10) ?_
       refine qG _ hg9 ?_
       refine step (v := vi (r10.length : Int)) (bH (xs := r10) (e := (D.int .i64)) rfl) ?_
       refine qG _ hg9 ?_
       refine q1 _ ?_
       refine step (v := vb ((r10.length : Int) == 2)) (bv (b := (r8 == 2)) rfl hg9 rfl) ?_
       refine q1 _ ?_
       have hh := aB hv
       subst hh
       exact nR []
      ·
       replace hv := bq hg9 hv
       iterate 4 refine qX _ hg9 ?_
       refine step (v := vb false) (bx (b := (r8 == 2)) rfl hg9 rfl) ?_
       refine q1 _ ?_
       have hh := aB hv
       subst hh
       exact nR []
     ·
      replace hv := bq hg7 hv
      iterate 3 refine qX _ hg7 ?_
      refine step (v := vb false) (bx (b := (r2.1 == 2)) rfl hg7 rfl) ?_
      refine q1 _ ?_
      iterate 4 refine qX false (by decide) ?_
      refine step (v := vb false) (bx (b := false) rfl (by decide) rfl) ?_
      refine q1 _ ?_
      have hh := aB hv
      subst hh
      exact nR []
    ·
     replace hv := bq hg6 hv
     iterate 2 refine qX _ hg6 ?_
     refine step (v := vb false) (bx (b := r5) rfl hg6 rfl) ?_
     refine q1 _ ?_
     iterate 3 refine qX false (by decide) ?_
     refine step (v := vb false) (bx (b := false) rfl (by decide) rfl) ?_
     refine q1 _ ?_
     iterate 4 refine qX false (by decide) ?_
     refine step (v := vb false) (bx (b := false) rfl (by decide) rfl) ?_
     refine q1 _ ?_
     have hh := aB hv
     subst hh
     exact nR []
   ·
    replace hv := bq hg4 hv
    iterate 3 refine qX _ hg4 ?_
    refine step (v := vb false) (bx (b := r2.2) rfl hg4 rfl) ?_
    refine q1 _ ?_
    iterate 2 refine qX false (by decide) ?_
    refine step (v := vb false) (bx (b := false) rfl (by decide) rfl) ?_
    refine q1 _ ?_
    iterate 3 refine qX false (by decide) ?_
    refine step (v := vb false) (bx (b := false) rfl (by decide) rfl) ?_
    refine q1 _ ?_
    iterate 4 refine qX false (by decide) ?_
    refine step (v := vb false) (bx (b := false) rfl (by decide) rfl) ?_
    refine q1 _ ?_
    have hh := aB hv
    subst hh
    exact nR []
  ·
   replace hv := bq hg3 hv
   refine qX _ hg3 ?_
   refine step (v := vb false) (bx (b := r1.2) rfl hg3 rfl) ?_
   refine q1 _ ?_
   iterate 3 refine qX false (by decide) ?_
   refine step (v := vb false) (bx (b := false) rfl (by decide) rfl) ?_
   refine q1 _ ?_
   iterate 2 refine qX false (by decide) ?_
   refine step (v := vb false) (bx (b := false) rfl (by decide) rfl) ?_
   refine q1 _ ?_
   iterate 3 refine qX false (by decide) ?_
   refine step (v := vb false) (bx (b := false) rfl (by decide) rfl) ?_
   refine q1 _ ?_
   iterate 4 refine qX false (by decide) ?_
   refine step (v := vb false) (bx (b := false) rfl (by decide) rfl) ?_
   refine q1 _ ?_
   have hh := aB hv
   subst hh
   exact nR []
 have hh := aB h
 subst hh
 refine bB ?_
 show FQ _ _ _ _
 exact bR (.inr rfl) (bn (v := vb y11) rfl rfl) (RV.d trivial)
theorem kG {a0 : api_Topo} {a1 : Int} {r : Int} (h : ga a0 a1 = some r) : PCall Try.prog 54 [eapi_Topo a0, .int .u16 a1] (.int .i64 r) := by
 refine PCall.introN ut (show 2 ≤ 21 by decide) ?_
 refine aW (s0 := ⟨tab [(0, vs1 a0), (1, vh a1)], ac [], 0⟩) (nr []) ?_
 refine ak ⟨tab [(1, vh a1), (2, am a0)], ac [], 0⟩ ?_ ?_
 ·
  iterate 2 refine q1 _ ?_
  exact nR []
 refine aE ?_
 refine ak ⟨tab [(1, vh a1), (2, am a0), (5, vi 0)], ac [], 0⟩ ?_ ?_
 ·
  refine q1 _ ?_
  exact nR []
 obtain ⟨q9, hl, h⟩ := ap h
 refine be ?_
 refine eJ (cg (a0.Switches.length : Int)) (fun (i1 : Int) (qq : Unit) => ⟨tab [(1, vh a1), (2, am a0), (5, vi i1)], ac [], 0⟩) 0 (fun (qq : Unit) => ⟨tab [], ac [], 0⟩) bg ck (r := r) hl (by unfold bg; omega) ?_ ?_ ?_ ?_
 ·
  rintro i1 ⟨⟩ xr6 hinv4 hgo3 h
  show aF _ _ _ _ _ ⟨tab [(1, vh a1), (2, am a0), (5, vi i1)], ac [], 0⟩
  have hc5 : decide (i1 < (a0.Switches.length : Int)) = true := decide_eq_true hgo3
  refine aE ?_
  refine ak ⟨tab [(1, vh a1), (2, am a0), (5, vi i1), (9, vi (a0.Switches.length : Int)), (10, vb (decide (i1 < (a0.Switches.length : Int))))], ac [], 0⟩ ?_ ?_
  ·
   iterate 3 refine q1 _ ?_
   refine step (v := vi (a0.Switches.length : Int)) (bH (xs := a0.Switches) (e := (D.int .u16)) rfl) ?_
   refine q1 _ ?_
   exact nR []
  refine cf 9 rfl fun hB2 => ?_
  refine aZ (t := decide (i1 < (a0.Switches.length : Int))) rfl hc5 ?_
  refine ba ?_
  refine aE ?_
  refine be ?_
  obtain ⟨x7, hx7, h⟩ := ap h
  refine ak ⟨tab [(1, vh a1), (2, am a0), (5, vi i1), (19, vb (x7 == a1))], ac [], 0⟩ ?_ ?_
  ·
   iterate 3 refine q1 _ ?_
   refine step (v := .d (.cptr none (.int .u16 x7) 0)) (bZ (xs := a0.Switches) (e := (D.int .u16)) hx7 rfl rfl) ?_
   iterate 3 refine q1 _ ?_
   exact nR []
  by_cases hc8 : (x7 == a1) = true
  ·
   replace h := bp hc8 h
   refine aZ (t := (x7 == a1)) rfl hc8 ?_
   refine ak ⟨tab [(4, vi i1)], ac [], 0⟩ ?_ ?_
   ·
    iterate 2 refine q1 _ ?_
    exact nR []
   obtain ⟨r9, kr9, hr⟩ := dU (o := some i1) (g := Br.ret) h
   subst hr
   have h := kr9
   have hh := aB h
   subst hh
   refine bB ?_
   refine And.intro (fun hn => nomatch hn) ?_
   intro hq
   have hq := hq.symm
   subst hq
   show FQ _ _ _ _
   exact bR (.inr rfl) (bn (v := vi i1) rfl rfl) (RV.d trivial)
  ·
   replace h := bq hc8 h
   refine a8 (t := (x7 == a1)) rfl hc8 ?_
   refine ba ?_
   have hh := aB h
   subst hh
   refine bw ⟨tab [(1, vh a1), (2, am a0), (5, vi (i1 + 1))], ac [], 0⟩ ?_ ?_
   ·
    refine q1 _ ?_
    refine step (v := vi (i1 + 1)) (cd (ce hinv4 hgo3 hB2) rfl rfl) ?_
    refine q1 _ ?_
    exact nR []
   exact And.intro rfl rfl
 ·
  rintro i1 ⟨⟩ hinv4 hgo3
  show aF _ _ _ _ _ ⟨tab [(1, vh a1), (2, am a0), (5, vi i1)], ac [], 0⟩
  have hc5 : ¬ (decide (i1 < (a0.Switches.length : Int)) = true) := fun hq => hgo3 (of_decide_eq_true hq)
  refine aE ?_
  refine ak ⟨tab [(1, vh a1), (2, am a0), (5, vi i1), (10, vb (decide (i1 < (a0.Switches.length : Int))))], ac [], 0⟩ ?_ ?_
  ·
   iterate 3 refine q1 _ ?_
   refine step (v := vi (a0.Switches.length : Int)) (bH (xs := a0.Switches) (e := (D.int .u16)) rfl) ?_
   refine q1 _ ?_
   exact nR []
  refine a8 (t := decide (i1 < (a0.Switches.length : Int))) rfl hc5 ?_
  refine aW (s0 := ⟨tab [], ac [], 0⟩) (nr []) ?_
  refine bQ ?_
  exact And.intro rfl rfl
 ·
  intro r' hq
  subst hq
  exact aB h
 rintro ⟨⟩ rfl
 refine ak ⟨tab [(4, vi (-1))], ac [], 0⟩ ?_ ?_
 ·
  refine q1 _ ?_
  exact nR []
 have hh := aB h
 subst hh
 refine bB ?_
 show FQ _ _ _ _
 exact bR (.inr rfl) (bn (v := vi (-1)) rfl rfl) (RV.d trivial)
theorem vO {a0 : api_Topo} {r : (List api_Port)} (h : jA a0 = some r) : PCall Try.prog 55 [eapi_Topo a0] (eL (some 2) eapi_Port r) := by
 refine PCall.introN uz (show 1 ≤ 31 by decide) ?_
 refine aW (s0 := ⟨tab [(0, vs1 a0)], ac [], 0⟩) (nr []) ?_
 refine ak ⟨tab [(1, am a0)], ac [], 0⟩ ?_ ?_
 ·
  iterate 2 refine q1 _ ?_
  exact nR []
 refine ak ⟨tab [(1, am a0), (3, .d (.nils))], ac [], 0⟩ ?_ ?_
 ·
  refine q1 _ ?_
  exact nR []
 refine aE ?_
 refine ak ⟨tab [(1, am a0), (3, .d (.nils)), (4, vi 0)], ac [], 0⟩ ?_ ?_
 ·
  refine q1 _ ?_
  exact nR []
 obtain ⟨z10, hl, h⟩ := ap h
 refine aW (s0 := ⟨tab [(1, am a0), (3, .loc 0 0 (([] : List api_Port).length)), (4, vi 0)], ac [(0, .lst false (some 2) (List.map eapi_Port ([] : List api_Port)))], 1⟩) (bu.trans (s2 := ⟨tab [(1, am a0), (3, .loc 0 0 (([] : List api_Port).length)), (4, vi 0)], ac [(0, .lst false (some 2) (List.map eapi_Port ([] : List api_Port)))], 1⟩) (ki 3 false (some 2) rfl) (nr [0])) ?_
 refine be ?_
 refine dc (cg (a0.Links.length : Int)) (fun (i2 : Int) (qq : (List api_Port)) => ⟨tab [(1, am a0), (3, .loc 0 0 qq.length), (4, vi i2)], ac [(0, .lst false (some 2) (List.map eapi_Port qq))], 1⟩) 0 (fun (qq : (List api_Port)) => ⟨tab [(1, am a0), (3, .loc 0 0 qq.length)], ac [(0, .lst false (some 2) (List.map eapi_Port qq))], 1⟩) bg ck hl (by unfold bg; omega) ?_ ?_ ?_
 ·
  rintro i2 l1 xr7 hinv5 hgo4 h
  show aF _ _ _ _ _ ⟨tab [(1, am a0), (3, .loc 0 0 l1.length), (4, vi i2)], ac [(0, .lst false (some 2) (List.map eapi_Port l1))], 1⟩
  have hc6 : decide (i2 < (a0.Links.length : Int)) = true := decide_eq_true hgo4
  refine aE ?_
  refine ak ⟨tab [(1, am a0), (3, .loc 0 0 l1.length), (4, vi i2), (8, vi (a0.Links.length : Int)), (9, vb (decide (i2 < (a0.Links.length : Int))))], ac [(0, .lst false (some 2) (List.map eapi_Port l1))], 1⟩ ?_ ?_
  ·
   iterate 3 refine q1 _ ?_
   refine step (v := vi (a0.Links.length : Int)) (bH (xs := a0.Links) (e := (bW eapi_Port)) rfl) ?_
   refine q1 _ ?_
   exact nR [0]
  refine cf 8 rfl fun hB3 => ?_
  refine aZ (t := decide (i2 < (a0.Links.length : Int))) rfl hc6 ?_
  refine ba ?_
  refine aE ?_
  refine be ?_
  obtain ⟨x8, hx8, h⟩ := ap h
  obtain ⟨l9, hl9, h⟩ := ap h
  refine pA ⟨tab [(1, am a0), (3, .loc 0 0 l9.length), (4, vi i2)], ac [(0, .lst false (some 2) (List.map eapi_Port l9))], 1⟩ ?_ ?_
  ·
   refine cu [] [] (v := .loc 0 0 l1.length) rfl rfl rfl ?_
   refine cu [] [] (v := .d (.cptr (some 3) (eapi_Topo a0) 1)) rfl rfl rfl ?_
   refine cu [] [] (v := bI a0.Links) rfl rfl rfl ?_
   refine cu [] [] (v := vi i2) rfl rfl rfl ?_
   refine cu [] [] (v := .d (.cptr (some 4) (bW eapi_Port x8) 0)) (bZ (xs := a0.Links) (e := (bW eapi_Port)) hx8 rfl rfl) rfl rfl ?_
   refine cu [] [] (v := .d (.cptr (some 4) (bW eapi_Port x8) 0)) rfl rfl rfl ?_
   refine cu [] [] (v := iy x8.a0) rfl rfl rfl ?_
   refine cu [] [] (v := .d (.cptr (some 3) (eapi_Topo a0) 1)) rfl rfl rfl ?_
   refine cu [] [] (v := bI a0.Links) rfl rfl rfl ?_
   refine cu [] [] (v := vi i2) rfl rfl rfl ?_
   refine cu [] [] (v := .d (.cptr (some 4) (bW eapi_Port x8) 0)) (bZ (xs := a0.Links) (e := (bW eapi_Port)) hx8 rfl rfl) rfl rfl ?_
   refine cu [] [] (v := .d (.cptr (some 4) (bW eapi_Port x8) 2)) rfl rfl rfl ?_
   refine cu [] [] (v := iy x8.a1) rfl rfl rfl ?_
   refine cu [] [] (v := b8 ([x8.a0, x8.a1] : List api_Port)) rfl rfl rfl ?_
   refine cu [0] [0] (v := .loc 1 0 l9.length) (σ' := (aj (aj (ac [(0, .lst false (some 2) (List.map eapi_Port l1))]) 0 none) 1 (some (.lst false (some 2) (List.map eapi_Port l9))))) (n' := 2) (gM (xs := l1) (ys := ([x8.a0, x8.a1] : List api_Port)) (e := eapi_Port) hl9 rfl rfl rfl (gL (xs := ([x8.a0, x8.a1] : List api_Port)) (e := eapi_Port) rfl)) rfl rfl ?_
   refine cu [] [] (v := .loc 1 0 l9.length) rfl rfl rfl ?_
   exact ct.nil' ⟨by decide, nr [1]⟩
  have hh := aB h
  subst hh
  refine bw ⟨tab [(1, am a0), (3, .loc 0 0 l9.length), (4, vi (i2 + 1))], ac [(0, .lst false (some 2) (List.map eapi_Port l9))], 1⟩ ?_ ?_
  ·
   refine q1 _ ?_
   refine step (v := vi (i2 + 1)) (cd (ce hinv5 hgo4 hB3) rfl rfl) ?_
   refine q1 _ ?_
   exact nR [0]
  exact And.intro rfl rfl
 ·
  rintro i2 l1 hinv5 hgo4
  show aF _ _ _ _ _ ⟨tab [(1, am a0), (3, .loc 0 0 l1.length), (4, vi i2)], ac [(0, .lst false (some 2) (List.map eapi_Port l1))], 1⟩
  have hc6 : ¬ (decide (i2 < (a0.Links.length : Int)) = true) := fun hq => hgo4 (of_decide_eq_true hq)
  refine aE ?_
  refine ak ⟨tab [(1, am a0), (3, .loc 0 0 l1.length), (4, vi i2), (9, vb (decide (i2 < (a0.Links.length : Int))))], ac [(0, .lst false (some 2) (List.map eapi_Port l1))], 1⟩ ?_ ?_
  ·
   iterate 3 refine q1 _ ?_
   refine step (v := vi (a0.Links.length : Int)) (bH (xs := a0.Links) (e := (bW eapi_Port)) rfl) ?_
   refine q1 _ ?_
   exact nR [0]
  refine a8 (t := decide (i2 < (a0.Links.length : Int))) rfl hc6 ?_
  refine aW (s0 := ⟨tab [(1, am a0), (3, .loc 0 0 l1.length)], ac [(0, .lst false (some 2) (List.map eapi_Port l1))], 1⟩) (nr [0]) ?_
  refine bQ ?_
  exact And.intro rfl rfl
 obtain ⟨l11, hl11, h⟩ := ap h
 refine ak ⟨tab [(2, .loc 0 0 l11.length)], ac [(0, .lst false (some 2) (List.map eapi_Port l11))], 1⟩ ?_ ?_
 ·
  iterate 3 refine q1 _ ?_
  refine step (v := .loc 1 0 l11.length) (σ' := (aj (aj (ac [(0, .lst false (some 2) (List.map eapi_Port z10))]) 0 none) 1 (some (.lst false (some 2) (List.map eapi_Port l11))))) (n' := 2) (gM (xs := z10) (ys := a0.Hosts) (e := eapi_Port) hl11 rfl rfl rfl (gL (xs := a0.Hosts) (e := eapi_Port) rfl)) ?_
  refine q1 _ ?_
  exact nR [1]
 have hh := aB h
 subst hh
 refine bB ?_
 show FQ _ _ _ _
 exact bR (.inr rfl) (bn (v := .loc 0 0 l11.length) rfl rfl) (RV.loc (xs := l11) (e := eapi_Port) rfl rfl trivial)
theorem vP {a0 : api_Topo} {r : Int} (h : jB a0 = some r) : PCall Try.prog 22 [eapi_Topo a0] (.int .i64 r) := by
 refine PCall.introN uF (show 1 ≤ 76 by decide) ?_
 refine aW (s0 := ⟨tab [(0, vs1 a0)], ac [], 0⟩) (nr []) ?_
 refine ak ⟨tab [(1, am a0)], ac [], 0⟩ ?_ ?_
 ·
  iterate 2 refine q1 _ ?_
  exact nR []
 refine aE ?_
 refine ak ⟨tab [(1, am a0), (23, vb ((decide ((a0.Switches.length : Int) > 12)) || ((decide ((a0.Links.length : Int) > 24)) || (decide ((a0.Hosts.length : Int) > 24)))))], ac [], 0⟩ ?_ ?_
 ·
  iterate 2 refine q1 _ ?_
  refine step (v := vi (a0.Switches.length : Int)) (bH (xs := a0.Switches) (e := (D.int .u16)) rfl) ?_
  iterate 2 refine q1 _ ?_
  by_cases hg1 : decide ((a0.Switches.length : Int) > 12) = true
  ·
   iterate 4 refine qX (decide ((a0.Switches.length : Int) > 12)) (by rw [hg1]; decide) ?_
   refine step (v := vb true) (bv (b := decide ((a0.Switches.length : Int) > 12)) rfl hg1 rfl) ?_
   refine q1 _ ?_
   iterate 4 refine qX true (by decide) ?_
   refine step (v := vb true) (bv (b := true) rfl rfl rfl) ?_
   exact aK.nil' (nm [] ⟨.d _, .eq (by first | (simp [hg1]; done) | (simp_all; done) | grind), trivial⟩ trivial)
  ·
   refine qG (decide ((a0.Switches.length : Int) > 12)) (Bool.eq_false_iff.2 hg1) ?_
   refine q1 _ ?_
   refine qG (decide ((a0.Switches.length : Int) > 12)) (Bool.eq_false_iff.2 hg1) ?_
   refine q1 _ ?_
   refine qG (decide ((a0.Switches.length : Int) > 12)) (Bool.eq_false_iff.2 hg1) ?_
   refine step (v := vi (a0.Links.length : Int)) (bH (xs := a0.Links) (e := (bW eapi_Port)) rfl) ?_
   refine qG (decide ((a0.Switches.length : Int) > 12)) (Bool.eq_false_iff.2 hg1) ?_
   refine q1 _ ?_
   refine step (v := vb (decide ((a0.Links.length : Int) > 24))) (bx (b := decide ((a0.Switches.length : Int) > 12)) rfl hg1 rfl) ?_
   refine q1 _ ?_
   by_cases hg2 : decide ((a0.Links.length : Int) > 24) = true
   ·
    iterate 4 refine qX (decide ((a0.Links.length : Int) > 24)) (by rw [hg2]; decide) ?_
    refine step (v := vb true) (bv (b := decide ((a0.Links.length : Int) > 24)) rfl hg2 rfl) ?_
    exact aK.nil' (nm [] ⟨.d _, .eq (by first | (simp [hg1, hg2]; done) | (simp_all; done) | grind), trivial⟩ trivial)
   ·
    refine qG (decide ((a0.Links.length : Int) > 24)) (Bool.eq_false_iff.2 hg2) ?_
    refine q1 _ ?_
    refine qG (decide ((a0.Links.length : Int) > 24)) (Bool.eq_false_iff.2 hg2) ?_
    refine q1 _ ?_
    refine qG (decide ((a0.Links.length : Int) > 24)) (Bool.eq_false_iff.2 hg2) ?_
    refine step (v := vi (a0.Hosts.length : Int)) (bH (xs := a0.Hosts) (e := eapi_Port) rfl) ?_
    refine qG (decide ((a0.Links.length : Int) > 24)) (Bool.eq_false_iff.2 hg2) ?_
    refine q1 _ ?_
    refine step (v := vb (decide ((a0.Hosts.length : Int) > 24))) (bx (b := decide ((a0.Links.length : Int) > 24)) rfl hg2 rfl) ?_
    exact aK.nil' (nm [] ⟨.d _, .eq (by first | (simp [hg1, hg2]; done) | (simp_all; done) | grind), trivial⟩ trivial)
 by_cases hc3 : ((decide ((a0.Switches.length : Int) > 12)) || ((decide ((a0.Links.length : Int) > 24)) || (decide ((a0.Hosts.length : Int) > 24)))) = true
 ·
  replace h := bp hc3 h
  refine aZ (t := ((decide ((a0.Switches.length : Int) > 12)) || ((decide ((a0.Links.length : Int) > 24)) || (decide ((a0.Hosts.length : Int) > 24))))) rfl hc3 ?_
  refine ak ⟨tab [(2, vi 2)], ac [], 0⟩ ?_ ?_
  ·
   refine q1 _ ?_
   exact nR []
  have hh := aB h
  subst hh
  refine bB ?_
  show FQ _ _ _ _
  exact bR (.inr rfl) (bn (v := vi 2) rfl rfl) (RV.d trivial)
 ·
  replace h := bq hc3 h
  refine a8 (t := ((decide ((a0.Switches.length : Int) > 12)) || ((decide ((a0.Links.length : Int) > 24)) || (decide ((a0.Hosts.length : Int) > 24))))) rfl hc3 ?_
  refine ba ?_
  refine aE ?_
  refine ak ⟨tab [(1, am a0), (3, vi 0)], ac [], 0⟩ ?_ ?_
  ·
   refine q1 _ ?_
   exact nR []
  obtain ⟨q41, hl, h⟩ := ap h
  refine be ?_
  refine eJ (cg (a0.Switches.length : Int)) (fun (i4 : Int) (qq : Unit) => ⟨tab [(1, am a0), (3, vi i4)], ac [], 0⟩) 0 (fun (qq : Unit) => ⟨tab [(1, am a0)], ac [], 0⟩) bg ck (r := r) hl (by unfold bg; omega) ?_ ?_ ?_ ?_
  ·
   rintro i4 ⟨⟩ xr9 hinv7 hgo6 h
   show aF _ _ _ _ _ ⟨tab [(1, am a0), (3, vi i4)], ac [], 0⟩
   have hc8 : decide (i4 < (a0.Switches.length : Int)) = true := decide_eq_true hgo6
   refine aE ?_
   refine ak ⟨tab [(1, am a0), (3, vi i4), (27, vi (a0.Switches.length : Int)), (28, vb (decide (i4 < (a0.Switches.length : Int))))], ac [], 0⟩ ?_ ?_
   ·
    iterate 3 refine q1 _ ?_
    refine step (v := vi (a0.Switches.length : Int)) (bH (xs := a0.Switches) (e := (D.int .u16)) rfl) ?_
    refine q1 _ ?_
    exact nR []
   refine cf 27 rfl fun hB5 => ?_
   refine aZ (t := decide (i4 < (a0.Switches.length : Int))) rfl hc8 ?_
   refine ba ?_
   refine aE ?_
   refine be ?_
   obtain ⟨x10, hx10, h⟩ := ap h
   obtain ⟨r11, hr11, h⟩ := ap h
   refine ak ⟨tab [(1, am a0), (3, vi i4), (39, vb (r11 != i4))], ac [], 0⟩ ?_ ?_
   ·
    iterate 4 refine q1 _ ?_
    refine step (v := .d (.cptr none (.int .u16 x10) 0)) (bZ (xs := a0.Switches) (e := (D.int .u16)) hx10 rfl rfl) ?_
    refine q1 _ ?_
    refine bz (r := .int .i64 r11) (aL (aL aS.nil')) (kG hr11) ?_
    iterate 2 refine q1 _ ?_
    exact nR []
   by_cases hc12 : (r11 != i4) = true
   ·
    replace h := bp hc12 h
    refine aZ (t := (r11 != i4)) rfl hc12 ?_
    refine ak ⟨tab [(2, vi 12)], ac [], 0⟩ ?_ ?_
    ·
     refine q1 _ ?_
     exact nR []
    obtain ⟨r13, kr13, hr⟩ := dU (o := some 12) (g := Br.ret) h
    subst hr
    have h := kr13
    have hh := aB h
    subst hh
    refine bB ?_
    refine And.intro (fun hn => nomatch hn) ?_
    intro hq
    have hq := hq.symm
    subst hq
    show FQ _ _ _ _
    exact bR (.inr rfl) (bn (v := vi 12) rfl rfl) (RV.d trivial)
   ·
    replace h := bq hc12 h
    refine a8 (t := (r11 != i4)) rfl hc12 ?_
    refine ba ?_
    have hh := aB h
    subst hh
    refine bw ⟨tab [(1, am a0), (3, vi (i4 + 1))], ac [], 0⟩ ?_ ?_
    ·
     refine q1 _ ?_
     refine step (v := vi (i4 + 1)) (cd (ce hinv7 hgo6 hB5) rfl rfl) ?_
     refine q1 _ ?_
     exact nR []
    exact And.intro rfl rfl
  ·
   rintro i4 ⟨⟩ hinv7 hgo6
   show aF _ _ _ _ _ ⟨tab [(1, am a0), (3, vi i4)], ac [], 0⟩
   have hc8 : ¬ (decide (i4 < (a0.Switches.length : Int)) = true) := fun hq => hgo6 (of_decide_eq_true hq)
   refine aE ?_
   refine ak ⟨tab [(1, am a0), (3, vi i4), (28, vb (decide (i4 < (a0.Switches.length : Int))))], ac [], 0⟩ ?_ ?_
   ·
    iterate 3 refine q1 _ ?_
    refine step (v := vi (a0.Switches.length : Int)) (bH (xs := a0.Switches) (e := (D.int .u16)) rfl) ?_
    refine q1 _ ?_
    exact nR []
   refine a8 (t := decide (i4 < (a0.Switches.length : Int))) rfl hc8 ?_
   refine aW (s0 := ⟨tab [(1, am a0)], ac [], 0⟩) (nr []) ?_
   refine bQ ?_
   exact And.intro rfl rfl
  ·
   intro r' hq
   subst hq
   exact aB h
  rintro ⟨⟩ rfl
  obtain ⟨r13, hr13, h⟩ := ap h
  refine ak ⟨tab [(1, am a0), (4, b8 r13)], ac [], 0⟩ ?_ ?_
  ·
   refine q1 _ ?_
   refine bz (r := eL (some 2) eapi_Port r13) (aL aS.nil') (vO hr13) ?_
   refine q1 _ ?_
   exact nR []
  refine aE ?_
  refine ak ⟨tab [(1, am a0), (4, b8 r13), (5, vi 0)], ac [], 0⟩ ?_ ?_
  ·
   refine q1 _ ?_
   exact nR []
  obtain ⟨q40, hl, h⟩ := ap h
  refine be ?_
  refine eJ (cg (r13.length : Int)) (fun (i14 : Int) (qq : Unit) => ⟨tab [(1, am a0), (4, b8 r13), (5, vi i14)], ac [], 0⟩) 2 (fun (qq : Unit) => ⟨tab [(4, b8 r13)], ac [], 0⟩) bg ck (r := r) hl (by unfold bg; omega) ?_ ?_ ?_ ?_
  ·
   rintro i14 ⟨⟩ xr19 hinv17 hgo16 h
   show aF _ _ _ _ _ ⟨tab [(1, am a0), (4, b8 r13), (5, vi i14)], ac [], 0⟩
   have hc18 : decide (i14 < (r13.length : Int)) = true := decide_eq_true hgo16
   refine aE ?_
   refine ak ⟨tab [(1, am a0), (4, b8 r13), (5, vi i14), (44, vi (r13.length : Int)), (45, vb (decide (i14 < (r13.length : Int))))], ac [], 0⟩ ?_ ?_
   ·
    iterate 2 refine q1 _ ?_
    refine step (v := vi (r13.length : Int)) (bH (xs := r13) (e := eapi_Port) rfl) ?_
    refine q1 _ ?_
    exact nR []
   refine cf 44 rfl fun hB15 => ?_
   refine aZ (t := decide (i14 < (r13.length : Int))) rfl hc18 ?_
   refine ba ?_
   refine aE ?_
   refine be ?_
   obtain ⟨x20, hx20, h⟩ := ap h
   obtain ⟨r21, hr21, h⟩ := ap h
   refine ak ⟨tab [(1, am a0), (4, b8 r13), (5, vi i14), (55, vb (decide (r21 < 0)))], ac [], 0⟩ ?_ ?_
   ·
    iterate 3 refine q1 _ ?_
    refine step (v := mK x20) (bZ (xs := r13) (e := eapi_Port) hx20 rfl rfl) ?_
    iterate 2 refine q1 _ ?_
    refine bz (r := .int .i64 r21) (aL (aL aS.nil')) (kG hr21) ?_
    refine q1 _ ?_
    exact nR []
   by_cases hc22 : decide (r21 < 0) = true
   ·
    replace h := bp hc22 h
    refine aZ (t := decide (r21 < 0)) rfl hc22 ?_
    refine ak ⟨tab [(2, vi 12)], ac [], 0⟩ ?_ ?_
    ·
     refine q1 _ ?_
     exact nR []
    obtain ⟨r23, kr23, hr⟩ := dU (o := some 12) (g := Br.ret) h
    subst hr
    have h := kr23
    have hh := aB h
    subst hh
    refine bB ?_
    refine And.intro (fun hn => nomatch hn) ?_
    intro hq
    have hq := hq.symm
    subst hq
    show FQ _ _ _ _
    exact bR (.inr rfl) (bn (v := vi 12) rfl rfl) (RV.d trivial)
   ·
    replace h := bq hc22 h
    refine a8 (t := decide (r21 < 0)) rfl hc22 ?_
    refine ba ?_
    have hh := aB h
    subst hh
    refine bw ⟨tab [(1, am a0), (4, b8 r13), (5, vi (i14 + 1))], ac [], 0⟩ ?_ ?_
    ·
     refine q1 _ ?_
     refine step (v := vi (i14 + 1)) (cd (ce hinv17 hgo16 hB15) rfl rfl) ?_
     refine q1 _ ?_
     exact nR []
    exact And.intro rfl rfl
  ·
   rintro i14 ⟨⟩ hinv17 hgo16
   show aF _ _ _ _ _ ⟨tab [(1, am a0), (4, b8 r13), (5, vi i14)], ac [], 0⟩
   have hc18 : ¬ (decide (i14 < (r13.length : Int)) = true) := fun hq => hgo16 (of_decide_eq_true hq)
   refine aE ?_
   refine ak ⟨tab [(1, am a0), (4, b8 r13), (5, vi i14), (45, vb (decide (i14 < (r13.length : Int))))], ac [], 0⟩ ?_ ?_
   ·
    iterate 2 refine q1 _ ?_
    refine step (v := vi (r13.length : Int)) (bH (xs := r13) (e := eapi_Port) rfl) ?_
    refine q1 _ ?_
    exact nR []
   refine a8 (t := decide (i14 < (r13.length : Int))) rfl hc18 ?_
   refine aW (s0 := ⟨tab [(4, b8 r13)], ac [], 0⟩) (nr []) ?_
   refine bQ ?_
   exact And.intro rfl rfl
  ·
   intro r' hq
   subst hq
   exact aB h
  rintro ⟨⟩ rfl
  refine aE ?_
  refine ak ⟨tab [(4, b8 r13), (6, vi 0)], ac [], 0⟩ ?_ ?_
  ·
   refine q1 _ ?_
   exact nR []
  obtain ⟨q39, hl, h⟩ := ap h
  refine be ?_
  refine eJ (cg (r13.length : Int)) (fun (i23 : Int) (qq : Unit) => ⟨tab [(4, b8 r13), (6, vi i23)], ac [], 0⟩) 4 (fun (qq : Unit) => ⟨tab [], ac [], 0⟩) bg ck (r := r) hl (by unfold bg; omega) ?_ ?_ ?_ ?_
  ·
   rintro i23 ⟨⟩ xr28 hinv26 hgo25 h
   show aF _ _ _ _ _ ⟨tab [(4, b8 r13), (6, vi i23)], ac [], 0⟩
   have hc27 : decide (i23 < (r13.length : Int)) = true := decide_eq_true hgo25
   refine aE ?_
   refine ak ⟨tab [(4, b8 r13), (6, vi i23), (58, vi (r13.length : Int)), (59, vb (decide (i23 < (r13.length : Int))))], ac [], 0⟩ ?_ ?_
   ·
    iterate 2 refine q1 _ ?_
    refine step (v := vi (r13.length : Int)) (bH (xs := r13) (e := eapi_Port) rfl) ?_
    refine q1 _ ?_
    exact nR []
   refine cf 58 rfl fun hB24 => ?_
   refine aZ (t := decide (i23 < (r13.length : Int))) rfl hc27 ?_
   refine ba ?_
   refine aE ?_
   refine be ?_
   refine ak ⟨tab [(4, b8 r13), (6, vi i23), (7, vi 0)], ac [], 0⟩ ?_ ?_
   ·
    refine q1 _ ?_
    exact nR []
   obtain ⟨q38, hl, h⟩ := ap h
   refine be ?_
   refine eJ (cg i23) (fun (i29 : Int) (qq : Unit) => ⟨tab [(4, b8 r13), (6, vi i23), (7, vi i29)], ac [], 0⟩) 6 (fun (qq : Unit) => ⟨tab [(4, b8 r13), (6, vi i23)], ac [], 0⟩) bg ck (r := xr28) hl (by unfold bg; omega) ?_ ?_ ?_ ?_
   ·
    rintro i29 ⟨⟩ xr34 hinv32 hgo31 h
    show aF _ _ _ _ _ ⟨tab [(4, b8 r13), (6, vi i23), (7, vi i29)], ac [], 0⟩
    have hc33 : decide (i29 < i23) = true := decide_eq_true hgo31
    refine aE ?_
    refine ak ⟨tab [(4, b8 r13), (6, vi i23), (7, vi i29), (63, vi i23), (64, vb (decide (i29 < i23)))], ac [], 0⟩ ?_ ?_
    ·
     iterate 3 refine q1 _ ?_
     exact nR []
    refine cf 63 rfl fun hB30 => ?_
    refine aZ (t := decide (i29 < i23)) rfl hc33 ?_
    refine ba ?_
    refine aE ?_
    refine be ?_
    obtain ⟨x35, hx35, h⟩ := ap h
    obtain ⟨x36, hx36, h⟩ := ap h
    refine ak ⟨tab [(4, b8 r13), (6, vi i23), (7, vi i29), (75, vb (x35 == x36))], ac [], 0⟩ ?_ ?_
    ·
     iterate 2 refine q1 _ ?_
     refine step (v := mK x35) (bZ (xs := r13) (e := eapi_Port) hx35 rfl rfl) ?_
     iterate 3 refine q1 _ ?_
     refine step (v := mK x36) (bZ (xs := r13) (e := eapi_Port) hx36 rfl rfl) ?_
     refine q1 _ ?_
     refine step (v := vb (x35 == x36)) (rY (neg := false) rfl rfl (tK x35 x36)) ?_
     exact nR []
    by_cases hc37 : (x35 == x36) = true
    ·
     replace h := bp hc37 h
     refine aZ (t := (x35 == x36)) rfl hc37 ?_
     refine ak ⟨tab [(2, vi 11)], ac [], 0⟩ ?_ ?_
     ·
      refine q1 _ ?_
      exact nR []
     obtain ⟨r38, kr38, hr⟩ := dU (o := some (Br.ret 11)) (g := Br.ret) h
     subst hr
     have h := kr38
     obtain ⟨r39, kr39, hr⟩ := dU (o := some 11) (g := Br.ret) h
     subst hr
     have h := kr39
     have hh := aB h
     subst hh
     refine bB ?_
     refine And.intro (fun hn => nomatch hn) ?_
     intro hq
     have hq := hq.symm
     subst hq
     refine And.intro (fun hn => nomatch hn) ?_
     intro hq
     have hq := hq.symm
     subst hq
     show FQ _ _ _ _
     exact bR (.inr rfl) (bn (v := vi 11) rfl rfl) (RV.d trivial)
    ·
     replace h := bq hc37 h
     refine a8 (t := (x35 == x36)) rfl hc37 ?_
     refine ba ?_
     have hh := aB h
     subst hh
     refine bw ⟨tab [(4, b8 r13), (6, vi i23), (7, vi (i29 + 1))], ac [], 0⟩ ?_ ?_
     ·
      refine q1 _ ?_
      refine step (v := vi (i29 + 1)) (cd (ce hinv32 hgo31 hB30) rfl rfl) ?_
      refine q1 _ ?_
      exact nR []
     exact And.intro rfl rfl
   ·
    rintro i29 ⟨⟩ hinv32 hgo31
    show aF _ _ _ _ _ ⟨tab [(4, b8 r13), (6, vi i23), (7, vi i29)], ac [], 0⟩
    have hc33 : ¬ (decide (i29 < i23) = true) := fun hq => hgo31 (of_decide_eq_true hq)
    refine aE ?_
    refine ak ⟨tab [(4, b8 r13), (6, vi i23), (7, vi i29), (64, vb (decide (i29 < i23)))], ac [], 0⟩ ?_ ?_
    ·
     iterate 3 refine q1 _ ?_
     exact nR []
    refine a8 (t := decide (i29 < i23)) rfl hc33 ?_
    refine aW (s0 := ⟨tab [(4, b8 r13), (6, vi i23)], ac [], 0⟩) (nr []) ?_
    refine bQ ?_
    exact And.intro rfl rfl
   ·
    intro r' hq
    subst hq
    exact aB h
   rintro ⟨⟩ rfl
   have hh := aB h
   subst hh
   refine bw ⟨tab [(4, b8 r13), (6, vi (i23 + 1))], ac [], 0⟩ ?_ ?_
   ·
    refine q1 _ ?_
    refine step (v := vi (i23 + 1)) (cd (ce hinv26 hgo25 hB24) rfl rfl) ?_
    refine q1 _ ?_
    exact nR []
   exact And.intro rfl rfl
  ·
   rintro i23 ⟨⟩ hinv26 hgo25
   show aF _ _ _ _ _ ⟨tab [(4, b8 r13), (6, vi i23)], ac [], 0⟩
   have hc27 : ¬ (decide (i23 < (r13.length : Int)) = true) := fun hq => hgo25 (of_decide_eq_true hq)
   refine aE ?_
   refine ak ⟨tab [(4, b8 r13), (6, vi i23), (59, vb (decide (i23 < (r13.length : Int))))], ac [], 0⟩ ?_ ?_
   ·
    iterate 2 refine q1 _ ?_
    refine step (v := vi (r13.length : Int)) (bH (xs := r13) (e := eapi_Port) rfl) ?_
    refine q1 _ ?_
    exact nR []
   refine a8 (t := decide (i23 < (r13.length : Int))) rfl hc27 ?_
   refine aW (s0 := ⟨tab [], ac [], 0⟩) (nr []) ?_
   refine bQ ?_
   exact And.intro rfl rfl
  ·
   intro r' hq
   subst hq
   exact aB h
  rintro ⟨⟩ rfl
  refine ak ⟨tab [(2, vi 0)], ac [], 0⟩ ?_ ?_
  ·
   refine q1 _ ?_
   exact nR []
  have hh := aB h
  subst hh
  refine bB ?_
  show FQ _ _ _ _
  exact bR (.inr rfl) (bn (v := vi 0) rfl rfl) (RV.d trivial)
theorem pJ {a0 : api_Topo} {a1 : Int} {r : (Int × Int)} (h : iF a0 a1 = some r) : PCall Try.prog 34 [eapi_Topo a0, .int .i64 a1] (.tup [.int .i64 r.1, .int .i64 r.2]) := by
 refine PCall.introN uH (show 2 ≤ 24 by decide) ?_
 refine aW (s0 := ⟨tab [(0, vs1 a0), (1, vi a1)], ac [], 0⟩) (nr []) ?_
 refine ak ⟨tab [(1, vi a1), (2, am a0)], ac [], 0⟩ ?_ ?_
 ·
  iterate 3 refine q1 _ ?_
  exact nR []
 obtain ⟨x1, hx1, h⟩ := ap h
 obtain ⟨r2, hr2, h⟩ := ap h
 obtain ⟨r3, hr3, h⟩ := ap h
 refine ak ⟨tab [(4, vi r2), (5, vi r3)], ac [], 0⟩ ?_ ?_
 ·
  iterate 4 refine q1 _ ?_
  refine step (v := .d (.cptr (some 4) (bW eapi_Port x1) 0)) (bZ (xs := a0.Links) (e := (bW eapi_Port)) hx1 rfl rfl) ?_
  iterate 3 refine q1 _ ?_
  refine bz (r := .int .i64 r2) (aL (aL aS.nil')) (kG hr2) ?_
  iterate 4 refine q1 _ ?_
  refine step (v := .d (.cptr (some 4) (bW eapi_Port x1) 0)) (bZ (xs := a0.Links) (e := (bW eapi_Port)) hx1 rfl rfl) ?_
  iterate 3 refine q1 _ ?_
  refine bz (r := .int .i64 r3) (aL (aL aS.nil')) (kG hr3) ?_
  iterate 2 refine q1 _ ?_
  exact nR []
 have hh := aB h
 subst hh
 refine bB ?_
 show FQ _ _ _ _
 exact eZ (.inr rfl) (bn (v := vi r2) rfl (bn (v := vi r3) rfl rfl)) (RV.d (RV.d trivial))
theorem mO {a0 : api_Topo} {a1 : Int} {a2 : Int} {a3 : Int} {r : Bool} (h : gV a0 a1 a2 a3 = some r) : PCall Try.prog 29 [eapi_Topo a0, .int .i64 a1, .int .i64 a2, .int .i64 a3] (.bool r) := by
 refine PCall.introN uK (show 4 ≤ 53 by decide) ?_
 refine aW (s0 := ⟨tab [(0, vs1 a0), (1, vi a1), (2, vi a2), (3, vi a3)], ac [], 0⟩) (nr []) ?_
 refine ak ⟨tab [(1, vi a1), (2, vi a2), (3, vi a3), (4, am a0)], ac [], 0⟩ ?_ ?_
 ·
  iterate 2 refine q1 _ ?_
  exact nR []
 refine aE ?_
 refine ak ⟨tab [(1, vi a1), (2, vi a2), (3, vi a3), (4, am a0), (9, vi 0)], ac [], 0⟩ ?_ ?_
 ·
  refine q1 _ ?_
  exact nR []
 obtain ⟨q15, hl, h⟩ := ap h
 refine be ?_
 refine eJ (cg (a0.Links.length : Int)) (fun (i1 : Int) (qq : Unit) => ⟨tab [(1, vi a1), (2, vi a2), (3, vi a3), (4, am a0), (9, vi i1)], ac [], 0⟩) 0 (fun (qq : Unit) => ⟨tab [], ac [], 0⟩) bg ck (r := r) hl (by unfold bg; omega) ?_ ?_ ?_ ?_
 ·
  rintro i1 ⟨⟩ xr6 hinv4 hgo3 h
  show aF _ _ _ _ _ ⟨tab [(1, vi a1), (2, vi a2), (3, vi a3), (4, am a0), (9, vi i1)], ac [], 0⟩
  have hc5 : decide (i1 < (a0.Links.length : Int)) = true := decide_eq_true hgo3
  refine aE ?_
  refine ak ⟨tab [(1, vi a1), (2, vi a2), (3, vi a3), (4, am a0), (9, vi i1), (15, vi (a0.Links.length : Int)), (16, vb (decide (i1 < (a0.Links.length : Int))))], ac [], 0⟩ ?_ ?_
  ·
   iterate 3 refine q1 _ ?_
   refine step (v := vi (a0.Links.length : Int)) (bH (xs := a0.Links) (e := (bW eapi_Port)) rfl) ?_
   refine q1 _ ?_
   exact nR []
  refine cf 15 rfl fun hB2 => ?_
  refine aZ (t := decide (i1 < (a0.Links.length : Int))) rfl hc5 ?_
  refine ba ?_
  refine aE ?_
  refine be ?_
  obtain ⟨r7, hr7, h⟩ := ap h
  refine ak ⟨tab [(1, vi a1), (2, vi a2), (3, vi a3), (4, am a0), (9, vi i1), (10, vi r7.1), (11, vi r7.2)], ac [], 0⟩ ?_ ?_
  ·
   iterate 2 refine q1 _ ?_
   refine bz (r := .tup [.int .i64 r7.1, .int .i64 r7.2]) (aL (aL aS.nil')) (pJ hr7) ?_
   iterate 5 refine q1 _ ?_
   exact nR []
  refine ak ⟨tab [(1, vi a1), (2, vi a2), (3, vi a3), (4, am a0), (9, vi i1), (52, vb ((i1 != a3) && ((a1 != a2) && (if (r7.1 == a1) then ((r7.2 == a2) || ((r7.1 == a2) && (r7.2 == a1))) else ((r7.1 == a2) && (r7.2 == a1))))))], ac [], 0⟩ ?_ ?_
  ·
   iterate 4 refine q1 _ ?_
   by_cases hg8 : (i1 != a3) = true
   ·
    refine qG _ hg8 ?_
    refine q1 _ ?_
    refine qG _ hg8 ?_
    refine q1 _ ?_
    refine qG _ hg8 ?_
    refine q1 _ ?_
    refine step (v := vb (a1 != a2)) (bv (b := (i1 != a3)) rfl hg8 rfl) ?_
    refine q1 _ ?_
    by_cases hg9 : (a1 != a2) = true
    ·
     refine qG _ hg9 ?_
     refine q1 _ ?_
     refine qG _ hg9 ?_
     refine q1 _ ?_
     refine qG _ hg9 ?_
     refine q1 _ ?_
     refine qG _ hg9 ?_
     refine q1 _ ?_
     by_cases hg10 : (r7.1 == a1) = true
     ·
      refine qG _ hg10 ?_
      refine q1 _ ?_
      refine qG _ hg10 ?_
      refine q1 _ ?_
      refine qG _ hg10 ?_
      refine q1 _ ?_
      refine qG _ hg9 ?_
      refine step (v := vb (r7.2 == a2)) (bv (b := (r7.1 == a1)) rfl hg10 rfl) ?_
      refine qG _ hg9 ?_
      refine q1 _ ?_
      by_cases hg11 : (r7.2 == a2) = true
      ·
       iterate 4 refine qX (r7.2 == a2) (by rw [hg11]; decide) ?_
       refine cG rfl ?_
       refine cG rfl ?_
       refine cG rfl ?_
       refine qX (r7.2 == a2) (by rw [hg11]; decide) ?_
       refine qG _ hg9 ?_
       refine step (v := vb true) (bv (b := (r7.2 == a2)) rfl hg11 rfl) ?_
       refine step (v := vb true) (bv (b := (a1 != a2)) rfl hg9 rfl) ?_
       exact aK.nil' (nm [] ⟨.d _, .d _, .d _, .d _, .d _, .eq (by first | (simp [hg8, hg9, hg10, hg11]; done) | (simp_all; done) | grind), trivial⟩ trivial)
      ·
       refine qG (r7.2 == a2) (Bool.eq_false_iff.2 hg11) ?_
       refine q1 _ ?_
       refine qG (r7.2 == a2) (Bool.eq_false_iff.2 hg11) ?_
       refine q1 _ ?_
       refine qG (r7.2 == a2) (Bool.eq_false_iff.2 hg11) ?_
       refine q1 _ ?_
       refine qG (r7.2 == a2) (Bool.eq_false_iff.2 hg11) ?_
       refine q1 _ ?_
       by_cases hg12 : (r7.1 == a2) = true
       ·
        refine qG _ hg12 ?_
        refine q1 _ ?_
        refine qG _ hg12 ?_
        refine q1 _ ?_
        refine qG _ hg12 ?_
        refine q1 _ ?_
        refine qG (r7.2 == a2) (Bool.eq_false_iff.2 hg11) ?_
        refine step (v := vb (r7.2 == a1)) (bv (b := (r7.1 == a2)) rfl hg12 rfl) ?_
        refine qG _ hg9 ?_
        refine step (v := vb (r7.2 == a1)) (bx (b := (r7.2 == a2)) rfl hg11 rfl) ?_
        refine step (v := vb (r7.2 == a1)) (bv (b := (a1 != a2)) rfl hg9 rfl) ?_
        exact aK.nil' (nm [] ⟨.d _, .d _, .d _, .d _, .d _, .eq (by first | (simp [hg8, hg9, hg10, hg11, hg12]; done) | (simp_all; done) | grind), trivial⟩ trivial)
       ·
        iterate 3 refine qX _ hg12 ?_
        refine qG (r7.2 == a2) (Bool.eq_false_iff.2 hg11) ?_
        refine step (v := vb false) (bx (b := (r7.1 == a2)) rfl hg12 rfl) ?_
        refine qG _ hg9 ?_
        refine step (v := vb false) (bx (b := (r7.2 == a2)) rfl hg11 rfl) ?_
        refine step (v := vb false) (bv (b := (a1 != a2)) rfl hg9 rfl) ?_
        exact aK.nil' (nm [] ⟨.d _, .d _, .d _, .d _, .d _, .eq (by first | (simp [hg8, hg9, hg10, hg11, hg12]; done) | (simp_all; done) | grind), trivial⟩ trivial)
     ·
      iterate 3 refine qX _ hg10 ?_
      refine qG _ hg9 ?_
      refine step (v := vb false) (bx (b := (r7.1 == a1)) rfl hg10 rfl) ?_
      refine qG _ hg9 ?_
      refine q1 _ ?_
      refine qG false rfl ?_
      refine q1 _ ?_
      refine qG false rfl ?_
      refine q1 _ ?_
      refine qG false rfl ?_
      refine q1 _ ?_
      refine qG false rfl ?_
      refine q1 _ ?_
      by_cases hg13 : (r7.1 == a2) = true
      ·
       refine qG _ hg13 ?_
       refine q1 _ ?_
       refine qG _ hg13 ?_
       refine q1 _ ?_
       refine qG _ hg13 ?_
       refine q1 _ ?_
       refine qG false rfl ?_
       refine step (v := vb (r7.2 == a1)) (bv (b := (r7.1 == a2)) rfl hg13 rfl) ?_
       refine qG _ hg9 ?_
       refine step (v := vb (r7.2 == a1)) (bx (b := false) rfl (by decide) rfl) ?_
       refine step (v := vb (r7.2 == a1)) (bv (b := (a1 != a2)) rfl hg9 rfl) ?_
       exact aK.nil' (nm [] ⟨.d _, .d _, .d _, .d _, .d _, .eq (by first | (simp [hg8, hg9, hg10, hg13]; done) | (simp_all; done) | grind), trivial⟩ trivial)
      ·
       iterate 3 refine qX _ hg13 ?_
       refine qG false rfl ?_
       refine step (v := vb false) (bx (b := (r7.1 == a2)) rfl hg13 rfl) ?_
       refine qG _ hg9 ?_
       refine step (v := vb false) (bx (b := false) rfl (by decide) rfl) ?_
       refine step (v := vb false) (bv (b := (a1 != a2)) rfl hg9 rfl) ?_
       exact aK.nil' (nm [] ⟨.d _, .d _, .d _, .d _, .d _, .eq (by first | (simp [hg8, hg9, hg10, hg13]; done) | (simp_all; done) | grind), trivial⟩ trivial)
    ·
     iterate 4 refine qX _ hg9 ?_
     refine cG rfl ?_
     refine cG rfl ?_
     refine cG rfl ?_
     iterate 2 refine qX _ hg9 ?_
     refine cG rfl ?_
     refine cG rfl ?_
     refine cG rfl ?_
     refine cG rfl ?_
     refine cG rfl ?_
     refine cG rfl ?_
     refine cG rfl ?_
     refine cG rfl ?_
     refine qX _ hg9 ?_
     refine step (v := vb false) (bx (b := (a1 != a2)) rfl hg9 rfl) ?_
     exact aK.nil' (nm [] ⟨.d _, .d _, .d _, .d _, .d _, .eq (by first | (simp [hg8, hg9]; done) | (simp_all; done) | grind), trivial⟩ trivial)
   ·
    iterate 3 refine qX _ hg8 ?_
    refine step (v := vb false) (bx (b := (i1 != a3)) rfl hg8 rfl) ?_
    refine q1 _ ?_
    iterate 4 refine qX false (by decide) ?_
    refine cG rfl ?_
    refine cG rfl ?_
    refine cG rfl ?_
    iterate 2 refine qX false (by decide) ?_
    refine cG rfl ?_
    refine cG rfl ?_
    refine cG rfl ?_
    refine cG rfl ?_
    refine cG rfl ?_
    refine cG rfl ?_
    refine cG rfl ?_
    refine cG rfl ?_
    refine qX false (by decide) ?_
    refine step (v := vb false) (bx (b := false) rfl (by decide) rfl) ?_
    exact aK.nil' (nm [] ⟨.d _, .d _, .d _, .d _, .d _, .eq (by first | (simp [hg8]; done) | (simp_all; done) | grind), trivial⟩ trivial)
  by_cases hc14 : ((i1 != a3) && ((a1 != a2) && (if (r7.1 == a1) then ((r7.2 == a2) || ((r7.1 == a2) && (r7.2 == a1))) else ((r7.1 == a2) && (r7.2 == a1))))) = true
  ·
   replace h := bp hc14 h
   refine aZ (t := ((i1 != a3) && ((a1 != a2) && (if (r7.1 == a1) then ((r7.2 == a2) || ((r7.1 == a2) && (r7.2 == a1))) else ((r7.1 == a2) && (r7.2 == a1)))))) rfl hc14 ?_
   refine ak ⟨tab [(8, vb true)], ac [], 0⟩ ?_ ?_
   ·
    refine q1 _ ?_
    exact nR []
   obtain ⟨r15, kr15, hr⟩ := dU (o := some true) (g := Br.ret) h
   subst hr
   have h := kr15
   have hh := aB h
   subst hh
   refine bB ?_
   refine And.intro (fun hn => nomatch hn) ?_
   intro hq
   have hq := hq.symm
   subst hq
   show FQ _ _ _ _
   exact bR (.inr rfl) (bn (v := vb true) rfl rfl) (RV.d trivial)
  ·
   replace h := bq hc14 h
   refine a8 (t := ((i1 != a3) && ((a1 != a2) && (if (r7.1 == a1) then ((r7.2 == a2) || ((r7.1 == a2) && (r7.2 == a1))) else ((r7.1 == a2) && (r7.2 == a1)))))) rfl hc14 ?_
   refine ba ?_
   have hh := aB h
   subst hh
   refine bw ⟨tab [(1, vi a1), (2, vi a2), (3, vi a3), (4, am a0), (9, vi (i1 + 1))], ac [], 0⟩ ?_ ?_
   ·
    refine q1 _ ?_
    refine step (v := vi (i1 + 1)) (cd (ce hinv4 hgo3 hB2) rfl rfl) ?_
    refine q1 _ ?_
    exact nR []
   exact And.intro rfl rfl
 ·
  rintro i1 ⟨⟩ hinv4 hgo3
  show aF _ _ _ _ _ ⟨tab [(1, vi a1), (2, vi a2), (3, vi a3), (4, am a0), (9, vi i1)], ac [], 0⟩
  have hc5 : ¬ (decide (i1 < (a0.Links.length : Int)) = true) := fun hq => hgo3 (of_decide_eq_true hq)
  refine aE ?_
  refine ak ⟨tab [(1, vi a1), (2, vi a2), (3, vi a3), (4, am a0), (9, vi i1), (16, vb (decide (i1 < (a0.Links.length : Int))))], ac [], 0⟩ ?_ ?_
  ·
   iterate 3 refine q1 _ ?_
   refine step (v := vi (a0.Links.length : Int)) (bH (xs := a0.Links) (e := (bW eapi_Port)) rfl) ?_
   refine q1 _ ?_
   exact nR []
  refine a8 (t := decide (i1 < (a0.Links.length : Int))) rfl hc5 ?_
  refine aW (s0 := ⟨tab [], ac [], 0⟩) (nr []) ?_
  refine bQ ?_
  exact And.intro rfl rfl
 ·
  intro r' hq
  subst hq
  exact aB h
 rintro ⟨⟩ rfl
 refine ak ⟨tab [(8, vb false)], ac [], 0⟩ ?_ ?_
 ·
  refine q1 _ ?_
  exact nR []
 have hh := aB h
 subst hh
 refine bB ?_
 show FQ _ _ _ _
 exact bR (.inr rfl) (bn (v := vb false) rfl rfl) (RV.d trivial)
theorem js {a0 : api_Topo} {a1 : Int} {a2 : Int} {a3 : Int} {r : Int} (h : eN a0 a1 a2 a3 = some r) : PCall Try.prog 27 [eapi_Topo a0, .int .i64 a1, .int .i64 a2, .int .i64 a3] (.int .i64 r) := by
 refine PCall.introN uQ (show 4 ≤ 91 by decide) ?_
 refine aW (s0 := ⟨tab [(0, vs1 a0), (1, vi a1), (2, vi a2), (3, vi a3)], ac [], 0⟩) (nr []) ?_
 refine ak ⟨tab [(1, vi a1), (2, vi a2), (3, vi a3), (4, am a0)], ac [], 0⟩ ?_ ?_
 ·
  iterate 2 refine q1 _ ?_
  exact nR []
 refine ak ⟨tab [(1, vi a1), (2, vi a2), (3, vi a3), (4, am a0), (9, vi (a0.Switches.length : Int))], ac [], 0⟩ ?_ ?_
 ·
  iterate 2 refine q1 _ ?_
  refine step (v := vi (a0.Switches.length : Int)) (bH (xs := a0.Switches) (e := (D.int .u16)) rfl) ?_
  refine q1 _ ?_
  exact nR []
 refine aE ?_
 refine ak ⟨tab [(1, vi a1), (2, vi a2), (3, vi a3), (4, am a0), (9, vi (a0.Switches.length : Int)), (33, vb ((decide (a1 < 0)) || ((decide (a1 ≥ (a0.Switches.length : Int))) || ((decide (a2 < 0)) || (decide (a2 ≥ (a0.Switches.length : Int)))))))], ac [], 0⟩ ?_ ?_
 ·
  iterate 3 refine q1 _ ?_
  by_cases hg1 : decide (a1 < 0) = true
  ·
   iterate 3 refine qX (decide (a1 < 0)) (by rw [hg1]; decide) ?_
   refine step (v := vb true) (bv (b := decide (a1 < 0)) rfl hg1 rfl) ?_
   refine q1 _ ?_
   iterate 2 refine qX true (by decide) ?_
   refine step (v := vb true) (bv (b := true) rfl rfl rfl) ?_
   refine q1 _ ?_
   iterate 3 refine qX true (by decide) ?_
   refine step (v := vb true) (bv (b := true) rfl rfl rfl) ?_
   exact aK.nil' (nm [] ⟨.d _, .d _, .d _, .d _, .d _, .eq (by first | (simp [hg1]; done) | (simp_all; done) | grind), trivial⟩ trivial)
  ·
   refine qG (decide (a1 < 0)) (Bool.eq_false_iff.2 hg1) ?_
   refine q1 _ ?_
   refine qG (decide (a1 < 0)) (Bool.eq_false_iff.2 hg1) ?_
   refine q1 _ ?_
   refine qG (decide (a1 < 0)) (Bool.eq_false_iff.2 hg1) ?_
   refine q1 _ ?_
   refine step (v := vb (decide (a1 ≥ (a0.Switches.length : Int)))) (bx (b := decide (a1 < 0)) rfl hg1 rfl) ?_
   refine q1 _ ?_
   by_cases hg2 : decide (a1 ≥ (a0.Switches.length : Int)) = true
   ·
    iterate 2 refine qX (decide (a1 ≥ (a0.Switches.length : Int))) (by rw [hg2]; decide) ?_
    refine step (v := vb true) (bv (b := decide (a1 ≥ (a0.Switches.length : Int))) rfl hg2 rfl) ?_
    refine q1 _ ?_
    iterate 3 refine qX true (by decide) ?_
    refine step (v := vb true) (bv (b := true) rfl rfl rfl) ?_
    exact aK.nil' (nm [] ⟨.d _, .d _, .d _, .d _, .d _, .eq (by first | (simp [hg1, hg2]; done) | (simp_all; done) | grind), trivial⟩ trivial)
   ·
    refine qG (decide (a1 ≥ (a0.Switches.length : Int))) (Bool.eq_false_iff.2 hg2) ?_
    refine q1 _ ?_
    refine qG (decide (a1 ≥ (a0.Switches.length : Int))) (Bool.eq_false_iff.2 hg2) ?_
    refine q1 _ ?_
    refine step (v := vb (decide (a2 < 0))) (bx (b := decide (a1 ≥ (a0.Switches.length : Int))) rfl hg2 rfl) ?_
    refine q1 _ ?_
    by_cases hg3 : decide (a2 < 0) = true
    ·
     iterate 3 refine qX (decide (a2 < 0)) (by rw [hg3]; decide) ?_
     refine step (v := vb true) (bv (b := decide (a2 < 0)) rfl hg3 rfl) ?_
     exact aK.nil' (nm [] ⟨.d _, .d _, .d _, .d _, .d _, .eq (by first | (simp [hg1, hg2, hg3]; done) | (simp_all; done) | grind), trivial⟩ trivial)
    ·
     refine qG (decide (a2 < 0)) (Bool.eq_false_iff.2 hg3) ?_
     refine q1 _ ?_
     refine qG (decide (a2 < 0)) (Bool.eq_false_iff.2 hg3) ?_
     refine q1 _ ?_
     refine qG (decide (a2 < 0)) (Bool.eq_false_iff.2 hg3) ?_
     refine q1 _ ?_
     refine step (v := vb (decide (a2 ≥ (a0.Switches.length : Int)))) (bx (b := decide (a2 < 0)) rfl hg3 rfl) ?_
     exact aK.nil' (nm [] ⟨.d _, .d _, .d _, .d _, .d _, .eq (by first | (simp [hg1, hg2, hg3]; done) | (simp_all; done) | grind), trivial⟩ trivial)
 by_cases hc4 : ((decide (a1 < 0)) || ((decide (a1 ≥ (a0.Switches.length : Int))) || ((decide (a2 < 0)) || (decide (a2 ≥ (a0.Switches.length : Int)))))) = true
 ·
  replace h := bp hc4 h
  refine aZ (t := ((decide (a1 < 0)) || ((decide (a1 ≥ (a0.Switches.length : Int))) || ((decide (a2 < 0)) || (decide (a2 ≥ (a0.Switches.length : Int))))))) rfl hc4 ?_
  refine ak ⟨tab [(8, vi (-1))], ac [], 0⟩ ?_ ?_
  ·
   refine q1 _ ?_
   exact nR []
  have hh := aB h
  subst hh
  refine bB ?_
  show FQ _ _ _ _
  exact bR (.inr rfl) (bn (v := vi (-1)) rfl rfl) (RV.d trivial)
 ·
  replace h := bq hc4 h
  refine a8 (t := ((decide (a1 < 0)) || ((decide (a1 ≥ (a0.Switches.length : Int))) || ((decide (a2 < 0)) || (decide (a2 ≥ (a0.Switches.length : Int))))))) rfl hc4 ?_
  refine ba ?_
  obtain ⟨l5, hl5, h⟩ := ap h
  refine ak ⟨tab [(1, vi a1), (2, vi a2), (3, vi a3), (4, am a0), (9, vi (a0.Switches.length : Int)), (10, .loc 0 0 l5.length)], ac [(0, .lst true none (List.map (D.int .i64) l5))], 1⟩ ?_ ?_
  ·
   refine q1 _ ?_
   refine step (v := .loc 0 0 l5.length) (σ' := (aj (ac []) 0 (some (.lst true none (List.map (D.int .i64) l5))))) (n' := 1) (kg (e := (D.int .i64)) (z := 0) hl5 rfl rfl (kh hl5)) ?_
   refine q1 _ ?_
   exact nR [0]
  refine aE ?_
  refine ak ⟨tab [(1, vi a1), (2, vi a2), (3, vi a3), (4, am a0), (9, vi (a0.Switches.length : Int)), (10, .loc 0 0 l5.length), (11, vi 0)], ac [(0, .lst true none (List.map (D.int .i64) l5))], 1⟩ ?_ ?_
  ·
   refine q1 _ ?_
   exact nR [0]
  obtain ⟨z15, hl, h⟩ := ap h
  refine be ?_
  refine dc (cg (a0.Switches.length : Int)) (fun (i7 : Int) (qq : (List Int)) => ⟨tab [(1, vi a1), (2, vi a2), (3, vi a3), (4, am a0), (9, vi (a0.Switches.length : Int)), (10, .loc 0 0 qq.length), (11, vi i7)], ac [(0, .lst true none (List.map (D.int .i64) qq))], 1⟩) 0 (fun (qq : (List Int)) => ⟨tab [(1, vi a1), (2, vi a2), (3, vi a3), (4, am a0), (9, vi (a0.Switches.length : Int)), (10, .loc 0 0 qq.length)], ac [(0, .lst true none (List.map (D.int .i64) qq))], 1⟩) bg ck hl (by unfold bg; omega) ?_ ?_ ?_
  ·
   rintro i7 l6 xr12 hinv10 hgo9 h
   show aF _ _ _ _ _ ⟨tab [(1, vi a1), (2, vi a2), (3, vi a3), (4, am a0), (9, vi (a0.Switches.length : Int)), (10, .loc 0 0 l6.length), (11, vi i7)], ac [(0, .lst true none (List.map (D.int .i64) l6))], 1⟩
   have hc11 : decide (i7 < (a0.Switches.length : Int)) = true := decide_eq_true hgo9
   refine aE ?_
   refine ak ⟨tab [(1, vi a1), (2, vi a2), (3, vi a3), (4, am a0), (9, vi (a0.Switches.length : Int)), (10, .loc 0 0 l6.length), (11, vi i7), (37, vi (a0.Switches.length : Int)), (38, vb (decide (i7 < (a0.Switches.length : Int))))], ac [(0, .lst true none (List.map (D.int .i64) l6))], 1⟩ ?_ ?_
   ·
    iterate 3 refine q1 _ ?_
    exact nR [0]
   refine cf 37 rfl fun hB8 => ?_
   refine aZ (t := decide (i7 < (a0.Switches.length : Int))) rfl hc11 ?_
   refine ba ?_
   refine aE ?_
   refine be ?_
   obtain ⟨x13, hx13, h⟩ := ap h
   obtain ⟨l14, hl14, h⟩ := ap h
   refine bw ⟨tab [(1, vi a1), (2, vi a2), (3, vi a3), (4, am a0), (9, vi (a0.Switches.length : Int)), (10, .loc 0 0 l14.length), (11, vi i7)], ac [(0, .lst true none (List.map (D.int .i64) l14))], 1⟩ ?_ ?_
   ·
    iterate 2 refine q1 _ ?_
    refine step (v := .ptr 0 i7.toNat 0) (de (xs := l6) (e := (D.int .i64)) hx13 rfl rfl rfl rfl) ?_
    refine step (v := V.undef) (σ' := (aj (ac [(0, .lst true none (List.map (D.int .i64) l6))]) 0 (some (.lst true none (List.map (D.int .i64) l14))))) (n' := 1) (eY (e := (D.int .i64)) (v' := (-1)) hl14 rfl rfl rfl rfl rfl) ?_
    exact aK.nil' (nm [0] ⟨.d _, .d _, .d _, .d _, .d _, .le (id := 0) (eW hl14).symm (show 0 < 1 by decide), .d _, trivial⟩ ⟨⟨show 0 < 1 by decide, _, rfl, .lst _ _ _⟩, trivial⟩)
   have hh := aB h
   subst hh
   refine bw ⟨tab [(1, vi a1), (2, vi a2), (3, vi a3), (4, am a0), (9, vi (a0.Switches.length : Int)), (10, .loc 0 0 l14.length), (11, vi (i7 + 1))], ac [(0, .lst true none (List.map (D.int .i64) l14))], 1⟩ ?_ ?_
   ·
    refine q1 _ ?_
    refine step (v := vi (i7 + 1)) (cd (ce hinv10 hgo9 hB8) rfl rfl) ?_
    refine q1 _ ?_
    exact nR [0]
   exact And.intro rfl rfl
  ·
   rintro i7 l6 hinv10 hgo9
   show aF _ _ _ _ _ ⟨tab [(1, vi a1), (2, vi a2), (3, vi a3), (4, am a0), (9, vi (a0.Switches.length : Int)), (10, .loc 0 0 l6.length), (11, vi i7)], ac [(0, .lst true none (List.map (D.int .i64) l6))], 1⟩
   have hc11 : ¬ (decide (i7 < (a0.Switches.length : Int)) = true) := fun hq => hgo9 (of_decide_eq_true hq)
   refine aE ?_
   refine ak ⟨tab [(1, vi a1), (2, vi a2), (3, vi a3), (4, am a0), (9, vi (a0.Switches.length : Int)), (10, .loc 0 0 l6.length), (11, vi i7), (38, vb (decide (i7 < (a0.Switches.length : Int))))], ac [(0, .lst true none (List.map (D.int .i64) l6))], 1⟩ ?_ ?_
   ·
    iterate 3 refine q1 _ ?_
    exact nR [0]
   refine a8 (t := decide (i7 < (a0.Switches.length : Int))) rfl hc11 ?_
   refine aW (s0 := ⟨tab [(1, vi a1), (2, vi a2), (3, vi a3), (4, am a0), (9, vi (a0.Switches.length : Int)), (10, .loc 0 0 l6.length)], ac [(0, .lst true none (List.map (D.int .i64) l6))], 1⟩) (nr [0]) ?_
   refine bQ ?_
   exact And.intro rfl rfl
  obtain ⟨x16, hx16, h⟩ := ap h
  obtain ⟨l17, hl17, h⟩ := ap h
  refine ak ⟨tab [(2, vi a2), (3, vi a3), (4, am a0), (9, vi (a0.Switches.length : Int)), (10, .loc 0 0 l17.length)], ac [(0, .lst true none (List.map (D.int .i64) l17))], 1⟩ ?_ ?_
  ·
   iterate 2 refine q1 _ ?_
   refine step (v := .ptr 0 a1.toNat 0) (de (xs := z15) (e := (D.int .i64)) hx16 rfl rfl rfl rfl) ?_
   refine step (v := V.undef) (σ' := (aj (ac [(0, .lst true none (List.map (D.int .i64) z15))]) 0 (some (.lst true none (List.map (D.int .i64) l17))))) (n' := 1) (eY (e := (D.int .i64)) (v' := 0) hl17 rfl rfl rfl rfl rfl) ?_
   exact aK.nil' (nm [0] ⟨.d _, .d _, .d _, .d _, .le (id := 0) (eW hl17).symm (show 0 < 1 by decide), trivial⟩ ⟨⟨show 0 < 1 by decide, _, rfl, .lst _ _ _⟩, trivial⟩)
  refine aE ?_
  refine ak ⟨tab [(2, vi a2), (3, vi a3), (4, am a0), (9, vi (a0.Switches.length : Int)), (10, .loc 0 0 l17.length), (12, vi 0)], ac [(0, .lst true none (List.map (D.int .i64) l17))], 1⟩ ?_ ?_
  ·
   refine q1 _ ?_
   exact nR [0]
  obtain ⟨z55, hl, h⟩ := ap h
  refine be ?_
  refine dc (cg (a0.Switches.length : Int)) (fun (i19 : Int) (qq : (List Int)) => ⟨tab [(2, vi a2), (3, vi a3), (4, am a0), (9, vi (a0.Switches.length : Int)), (10, .loc 0 0 qq.length), (12, vi i19)], ac [(0, .lst true none (List.map (D.int .i64) qq))], 1⟩) 2 (fun (qq : (List Int)) => ⟨tab [(2, vi a2), (10, .loc 0 0 qq.length)], ac [(0, .lst true none (List.map (D.int .i64) qq))], 1⟩) bg ck hl (by unfold bg; omega) ?_ ?_ ?_
  ·
   rintro i19 l18 xr24 hinv22 hgo21 h
   show aF _ _ _ _ _ ⟨tab [(2, vi a2), (3, vi a3), (4, am a0), (9, vi (a0.Switches.length : Int)), (10, .loc 0 0 l18.length), (12, vi i19)], ac [(0, .lst true none (List.map (D.int .i64) l18))], 1⟩
   have hc23 : decide (i19 < (a0.Switches.length : Int)) = true := decide_eq_true hgo21
   refine aE ?_
   refine ak ⟨tab [(2, vi a2), (3, vi a3), (4, am a0), (9, vi (a0.Switches.length : Int)), (10, .loc 0 0 l18.length), (12, vi i19), (48, vi (a0.Switches.length : Int)), (49, vb (decide (i19 < (a0.Switches.length : Int))))], ac [(0, .lst true none (List.map (D.int .i64) l18))], 1⟩ ?_ ?_
   ·
    iterate 3 refine q1 _ ?_
    exact nR [0]
   refine cf 48 rfl fun hB20 => ?_
   refine aZ (t := decide (i19 < (a0.Switches.length : Int))) rfl hc23 ?_
   refine ba ?_
   refine aE ?_
   refine be ?_
   refine ak ⟨tab [(2, vi a2), (3, vi a3), (4, am a0), (9, vi (a0.Switches.length : Int)), (10, .loc 0 0 l18.length), (12, vi i19), (13, vi 0)], ac [(0, .lst true none (List.map (D.int .i64) l18))], 1⟩ ?_ ?_
   ·
    refine q1 _ ?_
    exact nR [0]
   obtain ⟨z53, hl, h⟩ := ap h
   refine be ?_
   refine dc (cg (a0.Switches.length : Int)) (fun (i26 : Int) (qq : (List Int)) => ⟨tab [(2, vi a2), (3, vi a3), (4, am a0), (9, vi (a0.Switches.length : Int)), (10, .loc 0 0 qq.length), (12, vi i19), (13, vi i26)], ac [(0, .lst true none (List.map (D.int .i64) qq))], 1⟩) 4 (fun (qq : (List Int)) => ⟨tab [(2, vi a2), (3, vi a3), (4, am a0), (9, vi (a0.Switches.length : Int)), (10, .loc 0 0 qq.length), (12, vi i19)], ac [(0, .lst true none (List.map (D.int .i64) qq))], 1⟩) bg ck hl (by unfold bg; omega) ?_ ?_ ?_
   ·
    rintro i26 l25 xr31 hinv29 hgo28 h
    show aF _ _ _ _ _ ⟨tab [(2, vi a2), (3, vi a3), (4, am a0), (9, vi (a0.Switches.length : Int)), (10, .loc 0 0 l25.length), (12, vi i19), (13, vi i26)], ac [(0, .lst true none (List.map (D.int .i64) l25))], 1⟩
    have hc30 : decide (i26 < (a0.Switches.length : Int)) = true := decide_eq_true hgo28
    refine aE ?_
    refine ak ⟨tab [(2, vi a2), (3, vi a3), (4, am a0), (9, vi (a0.Switches.length : Int)), (10, .loc 0 0 l25.length), (12, vi i19), (13, vi i26), (53, vi (a0.Switches.length : Int)), (54, vb (decide (i26 < (a0.Switches.length : Int))))], ac [(0, .lst true none (List.map (D.int .i64) l25))], 1⟩ ?_ ?_
    ·
     iterate 3 refine q1 _ ?_
     exact nR [0]
    refine cf 53 rfl fun hB27 => ?_
    refine aZ (t := decide (i26 < (a0.Switches.length : Int))) rfl hc30 ?_
    refine ba ?_
    refine aE ?_
    refine be ?_
    refine ak ⟨tab [(2, vi a2), (3, vi a3), (4, am a0), (9, vi (a0.Switches.length : Int)), (10, .loc 0 0 l25.length), (12, vi i19), (13, vi i26), (14, vi 0)], ac [(0, .lst true none (List.map (D.int .i64) l25))], 1⟩ ?_ ?_
    ·
     refine q1 _ ?_
     exact nR [0]
    obtain ⟨z51, hl, h⟩ := ap h
    refine be ?_
    refine dc (cg (a0.Switches.length : Int)) (fun (i33 : Int) (qq : (List Int)) => ⟨tab [(2, vi a2), (3, vi a3), (4, am a0), (9, vi (a0.Switches.length : Int)), (10, .loc 0 0 qq.length), (12, vi i19), (13, vi i26), (14, vi i33)], ac [(0, .lst true none (List.map (D.int .i64) qq))], 1⟩) 6 (fun (qq : (List Int)) => ⟨tab [(2, vi a2), (3, vi a3), (4, am a0), (9, vi (a0.Switches.length : Int)), (10, .loc 0 0 qq.length), (12, vi i19), (13, vi i26)], ac [(0, .lst true none (List.map (D.int .i64) qq))], 1⟩) bg ck hl (by unfold bg; omega) ?_ ?_ ?_
    ·
     rintro i33 l32 xr38 hinv36 hgo35 h
     show aF _ _ _ _ _ ⟨tab [(2, vi a2), (3, vi a3), (4, am a0), (9, vi (a0.Switches.length : Int)), (10, .loc 0 0 l32.length), (12, vi i19), (13, vi i26), (14, vi i33)], ac [(0, .lst true none (List.map (D.int .i64) l32))], 1⟩
     have hc37 : decide (i33 < (a0.Switches.length : Int)) = true := decide_eq_true hgo35
     refine aE ?_
     refine ak ⟨tab [(2, vi a2), (3, vi a3), (4, am a0), (9, vi (a0.Switches.length : Int)), (10, .loc 0 0 l32.length), (12, vi i19), (13, vi i26), (14, vi i33), (58, vi (a0.Switches.length : Int)), (59, vb (decide (i33 < (a0.Switches.length : Int))))], ac [(0, .lst true none (List.map (D.int .i64) l32))], 1⟩ ?_ ?_
     ·
      iterate 3 refine q1 _ ?_
      exact nR [0]
     refine cf 58 rfl fun hB34 => ?_
     refine aZ (t := decide (i33 < (a0.Switches.length : Int))) rfl hc37 ?_
     refine ba ?_
     obtain ⟨l49, hv, h⟩ := ap h
     refine eV ⟨tab [(2, vi a2), (3, vi a3), (4, am a0), (9, vi (a0.Switches.length : Int)), (10, .loc 0 0 l49.length), (12, vi i19), (13, vi i26), (14, vi i33)], ac [(0, .lst true none (List.map (D.int .i64) l49))], 1⟩ ?_ ?_
     ·
      replace h := hv
      refine be ?_
      obtain ⟨x39, hx39, h⟩ := ap h
      obtain ⟨y44, hv, h⟩ := ap h
      refine ak ⟨tab [(2, vi a2), (3, vi a3), (4, am a0), (9, vi (a0.Switches.length : Int)), (10, .loc 0 0 l32.length), (12, vi i19), (13, vi i26), (14, vi i33), (81, vb y44)], ac [(0, .lst true none (List.map (D.int .i64) l32))], 1⟩ ?_ ?_
      ·
       iterate 2 refine q1 _ ?_
       refine step (v := .ptr 0 i26.toNat 0) (de (xs := l32) (e := (D.int .i64)) hx39 rfl rfl rfl rfl) ?_
       refine step (v := vi x39) (eX (xs := l32) (e := (D.int .i64)) hx39 rfl rfl rfl) ?_
       iterate 3 refine q1 _ ?_
       by_cases hg40 : (x39 == i19) = true
       ·
        replace hv := bp hg40 hv
        obtain ⟨x41, hx41, hv⟩ := ap hv
        refine qG _ hg40 ?_
        refine q1 _ ?_
        refine qG _ hg40 ?_
        refine q1 _ ?_
        refine qG _ hg40 ?_
        refine step (v := .ptr 0 i33.toNat 0) (de (xs := l32) (e := (D.int .i64)) hx41 rfl rfl rfl rfl) ?_
        refine qG _ hg40 ?_
        refine step (v := vi x41) (eX (xs := l32) (e := (D.int .i64)) hx41 rfl rfl rfl) ?_
        refine qG _ hg40 ?_
        refine q1 _ ?_
        refine step (v := vb (decide (x41 < 0))) (bv (b := (x39 == i19)) rfl hg40 rfl) ?_
        refine q1 _ ?_
        by_cases hg42 : decide (x41 < 0) = true
        ·
         replace hv := bp hg42 hv
         obtain ⟨r43, hr43, hv⟩ := ap hv
         refine qG _ hg42 ?_
         refine q1 _ ?_
         refine qG _ hg42 ?_
         refine q1 _ ?_
         refine qG _ hg42 ?_
         refine q1 _ ?_
         refine qG _ hg42 ?_
         refine q1 _ ?_
         refine qG _ hg42 ?_
         refine bz (r := .bool r43) (aL (aL (aL (aL aS.nil')))) (mO hr43) ?_
         refine step (v := vb r43) (bv (b := decide (x41 < 0)) rfl hg42 rfl) ?_
         have hh := aB hv
         subst hh
         exact nR [0]
        ·
         replace hv := bq hg42 hv
         iterate 5 refine qX _ hg42 ?_
         refine step (v := vb false) (bx (b := decide (x41 < 0)) rfl hg42 rfl) ?_
         have hh := aB hv
         subst hh
         exact nR [0]
       ·
        replace hv := bq hg40 hv
        iterate 5 refine qX _ hg40 ?_
        refine step (v := vb false) (bx (b := (x39 == i19)) rfl hg40 rfl) ?_
        refine q1 _ ?_
        iterate 5 refine qX false (by decide) ?_
        refine step (v := vb false) (bx (b := false) rfl (by decide) rfl) ?_
        have hh := aB hv
        subst hh
        exact nR [0]
      by_cases hc46 : y44 = true
      ·
       replace h := bp hc46 h
       refine aZ (t := y44) rfl hc46 ?_
       obtain ⟨x47, hx47, h⟩ := ap h
       obtain ⟨l48, hl48, h⟩ := ap h
       have hh := aB h
       subst hh
       refine bw ⟨tab [(2, vi a2), (3, vi a3), (4, am a0), (9, vi (a0.Switches.length : Int)), (10, .loc 0 0 l48.length), (12, vi i19), (13, vi i26), (14, vi i33)], ac [(0, .lst true none (List.map (D.int .i64) l48))], 1⟩ ?_ ?_
       ·
        iterate 3 refine q1 _ ?_
        refine step (v := vi (i19 + 1)) (cd (ce hinv22 hgo21 hB20) rfl rfl) ?_
        refine step (v := .ptr 0 i33.toNat 0) (de (xs := l32) (e := (D.int .i64)) hx47 rfl rfl rfl rfl) ?_
        refine step (v := V.undef) (σ' := (aj (ac [(0, .lst true none (List.map (D.int .i64) l32))]) 0 (some (.lst true none (List.map (D.int .i64) l48))))) (n' := 1) (eY (e := (D.int .i64)) (v' := (i19 + 1)) hl48 rfl rfl rfl rfl rfl) ?_
        exact aK.nil' (nm [0] ⟨.d _, .d _, .d _, .d _, .le (id := 0) (eW hl48).symm (show 0 < 1 by decide), .d _, .d _, .d _, trivial⟩ ⟨⟨show 0 < 1 by decide, _, rfl, .lst _ _ _⟩, trivial⟩)
       exact And.intro rfl rfl
      ·
       replace h := bq hc46 h
       refine a8 (t := y44) rfl hc46 ?_
       have hh := aB h
       subst hh
       refine aW (s0 := ⟨tab [(2, vi a2), (3, vi a3), (4, am a0), (9, vi (a0.Switches.length : Int)), (10, .loc 0 0 l32.length), (12, vi i19), (13, vi i26), (14, vi i33)], ac [(0, .lst true none (List.map (D.int .i64) l32))], 1⟩) (nr [0]) ?_
       refine ba ?_
       exact And.intro rfl rfl
     have hh := aB h
     subst hh
     refine bw ⟨tab [(2, vi a2), (3, vi a3), (4, am a0), (9, vi (a0.Switches.length : Int)), (10, .loc 0 0 l49.length), (12, vi i19), (13, vi i26), (14, vi (i33 + 1))], ac [(0, .lst true none (List.map (D.int .i64) l49))], 1⟩ ?_ ?_
     ·
      refine q1 _ ?_
      refine step (v := vi (i33 + 1)) (cd (ce hinv36 hgo35 hB34) rfl rfl) ?_
      refine q1 _ ?_
      exact nR [0]
     exact And.intro rfl rfl
    ·
     rintro i33 l32 hinv36 hgo35
     show aF _ _ _ _ _ ⟨tab [(2, vi a2), (3, vi a3), (4, am a0), (9, vi (a0.Switches.length : Int)), (10, .loc 0 0 l32.length), (12, vi i19), (13, vi i26), (14, vi i33)], ac [(0, .lst true none (List.map (D.int .i64) l32))], 1⟩
     have hc37 : ¬ (decide (i33 < (a0.Switches.length : Int)) = true) := fun hq => hgo35 (of_decide_eq_true hq)
     refine aE ?_
     refine ak ⟨tab [(2, vi a2), (3, vi a3), (4, am a0), (9, vi (a0.Switches.length : Int)), (10, .loc 0 0 l32.length), (12, vi i19), (13, vi i26), (14, vi i33), (59, vb (decide (i33 < (a0.Switches.length : Int))))], ac [(0, .lst true none (List.map (D.int .i64) l32))], 1⟩ ?_ ?_
     ·
      iterate 3 refine q1 _ ?_
      exact nR [0]
     refine a8 (t := decide (i33 < (a0.Switches.length : Int))) rfl hc37 ?_
     refine aW (s0 := ⟨tab [(2, vi a2), (3, vi a3), (4, am a0), (9, vi (a0.Switches.length : Int)), (10, .loc 0 0 l32.length), (12, vi i19), (13, vi i26)], ac [(0, .lst true none (List.map (D.int .i64) l32))], 1⟩) (nr [0]) ?_
     refine bQ ?_
     exact And.intro rfl rfl
    have hh := aB h
    subst hh
    refine bw ⟨tab [(2, vi a2), (3, vi a3), (4, am a0), (9, vi (a0.Switches.length : Int)), (10, .loc 0 0 z51.length), (12, vi i19), (13, vi (i26 + 1))], ac [(0, .lst true none (List.map (D.int .i64) z51))], 1⟩ ?_ ?_
    ·
     refine q1 _ ?_
     refine step (v := vi (i26 + 1)) (cd (ce hinv29 hgo28 hB27) rfl rfl) ?_
     refine q1 _ ?_
     exact nR [0]
    exact And.intro rfl rfl
   ·
    rintro i26 l25 hinv29 hgo28
    show aF _ _ _ _ _ ⟨tab [(2, vi a2), (3, vi a3), (4, am a0), (9, vi (a0.Switches.length : Int)), (10, .loc 0 0 l25.length), (12, vi i19), (13, vi i26)], ac [(0, .lst true none (List.map (D.int .i64) l25))], 1⟩
    have hc30 : ¬ (decide (i26 < (a0.Switches.length : Int)) = true) := fun hq => hgo28 (of_decide_eq_true hq)
    refine aE ?_
    refine ak ⟨tab [(2, vi a2), (3, vi a3), (4, am a0), (9, vi (a0.Switches.length : Int)), (10, .loc 0 0 l25.length), (12, vi i19), (13, vi i26), (54, vb (decide (i26 < (a0.Switches.length : Int))))], ac [(0, .lst true none (List.map (D.int .i64) l25))], 1⟩ ?_ ?_
    ·
     iterate 3 refine q1 _ ?_
     exact nR [0]
    refine a8 (t := decide (i26 < (a0.Switches.length : Int))) rfl hc30 ?_
    refine aW (s0 := ⟨tab [(2, vi a2), (3, vi a3), (4, am a0), (9, vi (a0.Switches.length : Int)), (10, .loc 0 0 l25.length), (12, vi i19)], ac [(0, .lst true none (List.map (D.int .i64) l25))], 1⟩) (nr [0]) ?_
    refine bQ ?_
    exact And.intro rfl rfl
   have hh := aB h
   subst hh
   refine bw ⟨tab [(2, vi a2), (3, vi a3), (4, am a0), (9, vi (a0.Switches.length : Int)), (10, .loc 0 0 z53.length), (12, vi (i19 + 1))], ac [(0, .lst true none (List.map (D.int .i64) z53))], 1⟩ ?_ ?_
   ·
    refine q1 _ ?_
    refine step (v := vi (i19 + 1)) (cd (ce hinv22 hgo21 hB20) rfl rfl) ?_
    refine q1 _ ?_
    exact nR [0]
   exact And.intro rfl rfl
  ·
   rintro i19 l18 hinv22 hgo21
   show aF _ _ _ _ _ ⟨tab [(2, vi a2), (3, vi a3), (4, am a0), (9, vi (a0.Switches.length : Int)), (10, .loc 0 0 l18.length), (12, vi i19)], ac [(0, .lst true none (List.map (D.int .i64) l18))], 1⟩
   have hc23 : ¬ (decide (i19 < (a0.Switches.length : Int)) = true) := fun hq => hgo21 (of_decide_eq_true hq)
   refine aE ?_
   refine ak ⟨tab [(2, vi a2), (3, vi a3), (4, am a0), (9, vi (a0.Switches.length : Int)), (10, .loc 0 0 l18.length), (12, vi i19), (49, vb (decide (i19 < (a0.Switches.length : Int))))], ac [(0, .lst true none (List.map (D.int .i64) l18))], 1⟩ ?_ ?_
   ·
    iterate 3 refine q1 _ ?_
    exact nR [0]
   refine a8 (t := decide (i19 < (a0.Switches.length : Int))) rfl hc23 ?_
   refine aW (s0 := ⟨tab [(2, vi a2), (10, .loc 0 0 l18.length)], ac [(0, .lst true none (List.map (D.int .i64) l18))], 1⟩) (nr [0]) ?_
   refine bQ ?_
   exact And.intro rfl rfl
  obtain ⟨x56, hx56, h⟩ := ap h
  refine ak ⟨tab [(8, vi x56)], ac [], 0⟩ ?_ ?_
  ·
   iterate 2 refine q1 _ ?_
   refine step (v := .ptr 0 a2.toNat 0) (de (xs := z55) (e := (D.int .i64)) hx56 rfl rfl rfl rfl) ?_
   refine step (v := vi x56) (eX (xs := z55) (e := (D.int .i64)) hx56 rfl rfl rfl) ?_
   refine q1 _ ?_
   exact nR []
  have hh := aB h
  subst hh
  refine bB ?_
  show FQ _ _ _ _
  exact bR (.inr rfl) (bn (v := vi x56) rfl rfl) (RV.d trivial)
theorem vQ {a0 : api_Topo} {a1 : Int} {a2 : Int} {r : ((List Int) × Bool)} (h : eO a0 a1 a2 = some r) : PCall Try.prog 24 [eapi_Topo a0, .int .i64 a1, .int .i64 a2] (.tup [eL none (D.int .i64) r.1, .bool r.2]) := by
 refine PCall.introN uU (show 3 ≤ 52 by decide) ?_
 refine aW (s0 := ⟨tab [(0, vs1 a0), (1, vi a1), (2, vi a2)], ac [], 0⟩) (nr []) ?_
 refine ak ⟨tab [(1, vi a1), (2, vi a2), (3, am a0)], ac [], 0⟩ ?_ ?_
 ·
  iterate 3 refine q1 _ ?_
  exact nR []
 obtain ⟨r1, hr1, h⟩ := ap h
 refine ak ⟨tab [(1, vi a1), (2, vi a2), (3, am a0), (8, vi r1)], ac [], 0⟩ ?_ ?_
 ·
  iterate 3 refine q1 _ ?_
  refine bz (r := .int .i64 r1) (aL (aL (aL (aL aS.nil')))) (js hr1) ?_
  refine q1 _ ?_
  exact nR []
 refine aE ?_
 refine ak ⟨tab [(1, vi a1), (2, vi a2), (3, am a0), (8, vi r1), (17, vb (decide (r1 < 0)))], ac [], 0⟩ ?_ ?_
 ·
  iterate 2 refine q1 _ ?_
  exact nR []
 by_cases hc2 : decide (r1 < 0) = true
 ·
  replace h := bp hc2 h
  refine aZ (t := decide (r1 < 0)) rfl hc2 ?_
  refine ak ⟨tab [(6, aw ([] : List Int)), (7, vb false)], ac [], 0⟩ ?_ ?_
  ·
   iterate 2 refine q1 _ ?_
   exact nR []
  have hh := aB h
  subst hh
  refine bB ?_
  show FQ _ _ _ _
  exact eZ (.inr rfl) (bn (v := aw ([] : List Int)) rfl (bn (v := vb false) rfl rfl)) (RV.d (RV.d trivial))
 ·
  replace h := bq hc2 h
  refine a8 (t := decide (r1 < 0)) rfl hc2 ?_
  refine ba ?_
  refine ak ⟨tab [(1, vi a1), (2, vi a2), (3, am a0), (8, vi r1), (9, .loc 0 0 (([a1] : List Int).length))], ac [(0, .lst false none (List.map (D.int .i64) ([a1] : List Int)))], 1⟩ ?_ ?_
  ·
   refine q1 _ ?_
   refine step (v := .loc 0 0 (([a1] : List Int).length)) (σ' := (aj (ac []) 0 (some (.lst false none (List.map (D.int .i64) ([a1] : List Int)))))) (n' := 1) rfl ?_
   refine q1 _ ?_
   exact nR [0]
  refine aE ?_
  refine ak ⟨tab [(2, vi a2), (3, am a0), (8, vi r1), (9, .loc 0 0 (([a1] : List Int).length)), (10, vi a1)], ac [(0, .lst false none (List.map (D.int .i64) ([a1] : List Int)))], 1⟩ ?_ ?_
  ·
   iterate 2 refine q1 _ ?_
   exact nR [0]
  obtain ⟨q29, hl, h⟩ := ap h
  obtain ⟨z26, z27, z28⟩ := q29
  refine be ?_
  refine lX (fun (qq : (Int × (List Int) × Int)) => ⟨tab [(2, vi a2), (3, am a0), (8, vi qq.1), (9, .loc 0 0 qq.2.1.length), (10, vi qq.2.2)], ac [(0, .lst false none (List.map (D.int .i64) qq.2.1))], 1⟩) 0 (fun (qq : (Int × (List Int) × Int)) => ⟨tab [(9, .loc 0 0 qq.2.1.length)], ac [(0, .lst false none (List.map (D.int .i64) qq.2.1))], 1⟩) hl ?_ ?_
  ·
   rintro ⟨i3, l4, i5⟩ xr6 h
   show aF _ _ _ _ _ ⟨tab [(2, vi a2), (3, am a0), (8, vi i3), (9, .loc 0 0 l4.length), (10, vi i5)], ac [(0, .lst false none (List.map (D.int .i64) l4))], 1⟩
   refine aE ?_
   refine ak ⟨tab [(2, vi a2), (3, am a0), (8, vi i3), (9, .loc 0 0 l4.length), (10, vi i5), (23, vb (i5 != a2))], ac [(0, .lst false none (List.map (D.int .i64) l4))], 1⟩ ?_ ?_
   ·
    iterate 3 refine q1 _ ?_
    exact nR [0]
   by_cases hc7 : (i5 != a2) = true
   ·
    replace h := bp hc7 h
    refine aZ (t := (i5 != a2)) rfl hc7 ?_
    refine ba ?_
    refine aE ?_
    refine be ?_
    refine ak ⟨tab [(2, vi a2), (3, am a0), (8, vi i3), (9, .loc 0 0 l4.length), (10, vi i5), (11, vi 0)], ac [(0, .lst false none (List.map (D.int .i64) l4))], 1⟩ ?_ ?_
    ·
     refine q1 _ ?_
     exact nR [0]
    obtain ⟨q25, hl, h⟩ := ap h
    obtain ⟨z23, z24⟩ := q25
    refine be ?_
    refine rR (cg (a0.Switches.length : Int)) (fun (i10 : Int) (qq : ((List Int) × Int)) => ⟨tab [(2, vi a2), (3, am a0), (8, vi i3), (9, .loc 0 0 qq.1.length), (10, vi qq.2), (11, vi i10)], ac [(0, .lst false none (List.map (D.int .i64) qq.1))], 1⟩) 2 (fun (qq : ((List Int) × Int)) => ⟨tab [(2, vi a2), (3, am a0), (8, vi i3), (9, .loc 0 0 qq.1.length), (10, vi qq.2)], ac [(0, .lst false none (List.map (D.int .i64) qq.1))], 1⟩) bg ck hl (by unfold bg; omega) ?_ ?_ ?_
    ·
     rintro i10 ⟨l8, i9⟩ xr15 hinv13 hgo12 h
     show aF _ _ _ _ _ ⟨tab [(2, vi a2), (3, am a0), (8, vi i3), (9, .loc 0 0 l8.length), (10, vi i9), (11, vi i10)], ac [(0, .lst false none (List.map (D.int .i64) l8))], 1⟩
     have hc14 : decide (i10 < (a0.Switches.length : Int)) = true := decide_eq_true hgo12
     refine aE ?_
     refine ak ⟨tab [(2, vi a2), (3, am a0), (8, vi i3), (9, .loc 0 0 l8.length), (10, vi i9), (11, vi i10), (29, vi (a0.Switches.length : Int)), (30, vb (decide (i10 < (a0.Switches.length : Int))))], ac [(0, .lst false none (List.map (D.int .i64) l8))], 1⟩ ?_ ?_
     ·
      iterate 3 refine q1 _ ?_
      refine step (v := vi (a0.Switches.length : Int)) (bH (xs := a0.Switches) (e := (D.int .u16)) rfl) ?_
      refine q1 _ ?_
      exact nR [0]
     refine cf 29 rfl fun hB11 => ?_
     refine aZ (t := decide (i10 < (a0.Switches.length : Int))) rfl hc14 ?_
     refine ba ?_
     refine aE ?_
     refine be ?_
     obtain ⟨r16, hr16, h⟩ := ap h
     obtain ⟨y19, hv, h⟩ := ap h
     refine ak ⟨tab [(2, vi a2), (3, am a0), (8, vi i3), (9, .loc 0 0 l8.length), (10, vi i9), (11, vi i10), (45, vb y19)], ac [(0, .lst false none (List.map (D.int .i64) l8))], 1⟩ ?_ ?_
     ·
      iterate 3 refine q1 _ ?_
      refine bz (r := .bool r16) (aL (aL (aL (aL aS.nil')))) (mO hr16) ?_
      refine q1 _ ?_
      by_cases hg17 : r16 = true
      ·
       replace hv := bp hg17 hv
       obtain ⟨r18, hr18, hv⟩ := ap hv
       refine qG _ hg17 ?_
       refine q1 _ ?_
       refine qG _ hg17 ?_
       refine q1 _ ?_
       refine qG _ hg17 ?_
       refine q1 _ ?_
       refine qG _ hg17 ?_
       refine bz (r := .int .i64 r18) (aL (aL (aL (aL aS.nil')))) (js hr18) ?_
       refine qG _ hg17 ?_
       refine q1 _ ?_
       refine qG _ hg17 ?_
       refine q1 _ ?_
       refine qG _ hg17 ?_
       refine q1 _ ?_
       refine step (v := vb (r18 == (IntKind.i64.wrap (i3 - 1)))) (bv (b := r16) rfl hg17 rfl) ?_
       have hh := aB hv
       subst hh
       exact nR [0]
      ·
       replace hv := bq hg17 hv
       iterate 7 refine qX _ hg17 ?_
       refine step (v := vb false) (bx (b := r16) rfl hg17 rfl) ?_
       have hh := aB hv
       subst hh
       exact nR [0]
     by_cases hc21 : y19 = true
     ·
      replace h := bp hc21 h
      refine aZ (t := y19) rfl hc21 ?_
      refine ak ⟨tab [(2, vi a2), (3, am a0), (8, vi i3), (9, .loc 0 0 l8.length), (10, vi i10), (11, vi i10)], ac [(0, .lst false none (List.map (D.int .i64) l8))], 1⟩ ?_ ?_
      ·
       iterate 2 refine q1 _ ?_
       exact nR [0]
      obtain ⟨l22, hl22, h⟩ := ap h
      refine ak ⟨tab [(2, vi a2), (3, am a0), (8, vi i3), (9, .loc 0 0 l22.length), (10, vi i10)], ac [(0, .lst false none (List.map (D.int .i64) l22))], 1⟩ ?_ ?_
      ·
       iterate 3 refine q1 _ ?_
       refine step (v := .loc 1 0 l22.length) (σ' := (aj (aj (ac [(0, .lst false none (List.map (D.int .i64) l8))]) 0 none) 1 (some (.lst false none (List.map (D.int .i64) l22))))) (n' := 2) (gM (xs := l8) (ys := ([i10] : List Int)) (e := (D.int .i64)) hl22 rfl rfl rfl (gL (xs := ([i10] : List Int)) (e := (D.int .i64)) rfl)) ?_
       refine q1 _ ?_
       exact nR [1]
      have hh := aB h
      subst hh
      refine aW (s0 := ⟨tab [(2, vi a2), (3, am a0), (8, vi i3), (9, .loc 0 0 l22.length), (10, vi i10)], ac [(0, .lst false none (List.map (D.int .i64) l22))], 1⟩) (nr [0]) ?_
      refine bQ ?_
      exact And.intro rfl rfl
     ·
      replace h := bq hc21 h
      refine a8 (t := y19) rfl hc21 ?_
      refine ba ?_
      have hh := aB h
      subst hh
      refine bw ⟨tab [(2, vi a2), (3, am a0), (8, vi i3), (9, .loc 0 0 l8.length), (10, vi i9), (11, vi (i10 + 1))], ac [(0, .lst false none (List.map (D.int .i64) l8))], 1⟩ ?_ ?_
      ·
       refine q1 _ ?_
       refine step (v := vi (i10 + 1)) (cd (ce hinv13 hgo12 hB11) rfl rfl) ?_
       refine q1 _ ?_
       exact nR [0]
      exact And.intro rfl rfl
    ·
     rintro i10 ⟨l8, i9⟩ hinv13 hgo12
     show aF _ _ _ _ _ ⟨tab [(2, vi a2), (3, am a0), (8, vi i3), (9, .loc 0 0 l8.length), (10, vi i9), (11, vi i10)], ac [(0, .lst false none (List.map (D.int .i64) l8))], 1⟩
     have hc14 : ¬ (decide (i10 < (a0.Switches.length : Int)) = true) := fun hq => hgo12 (of_decide_eq_true hq)
     refine aE ?_
     refine ak ⟨tab [(2, vi a2), (3, am a0), (8, vi i3), (9, .loc 0 0 l8.length), (10, vi i9), (11, vi i10), (30, vb (decide (i10 < (a0.Switches.length : Int))))], ac [(0, .lst false none (List.map (D.int .i64) l8))], 1⟩ ?_ ?_
     ·
      iterate 3 refine q1 _ ?_
      refine step (v := vi (a0.Switches.length : Int)) (bH (xs := a0.Switches) (e := (D.int .u16)) rfl) ?_
      refine q1 _ ?_
      exact nR [0]
     refine a8 (t := decide (i10 < (a0.Switches.length : Int))) rfl hc14 ?_
     refine aW (s0 := ⟨tab [(2, vi a2), (3, am a0), (8, vi i3), (9, .loc 0 0 l8.length), (10, vi i9)], ac [(0, .lst false none (List.map (D.int .i64) l8))], 1⟩) (nr [0]) ?_
     refine bQ ?_
     exact And.intro rfl rfl
    have hh := aB h
    subst hh
    refine bw ⟨tab [(2, vi a2), (3, am a0), (8, vi (IntKind.i64.wrap (i3 - 1))), (9, .loc 0 0 z23.length), (10, vi z24)], ac [(0, .lst false none (List.map (D.int .i64) z23))], 1⟩ ?_ ?_
    ·
     iterate 3 refine q1 _ ?_
     exact nR [0]
    exact And.intro rfl rfl
   ·
    replace h := bq hc7 h
    refine a8 (t := (i5 != a2)) rfl hc7 ?_
    have hh := aB h
    subst hh
    refine aW (s0 := ⟨tab [(9, .loc 0 0 l4.length)], ac [(0, .lst false none (List.map (D.int .i64) l4))], 1⟩) (nr [0]) ?_
    refine bQ ?_
    exact And.intro rfl rfl
  refine ak ⟨tab [(6, .loc 0 0 z27.length), (7, vb true)], ac [(0, .lst false none (List.map (D.int .i64) z27))], 1⟩ ?_ ?_
  ·
   iterate 3 refine q1 _ ?_
   exact nR [0]
  have hh := aB h
  subst hh
  refine bB ?_
  show FQ _ _ _ _
  exact eZ (.inr rfl) (bn (v := .loc 0 0 z27.length) rfl (bn (v := vb true) rfl rfl)) (RV.loc (xs := z27) (e := (D.int .i64)) rfl rfl (RV.d trivial))
end Go.AM
