import Derived.Test.YtnnkfanmokeiaaaRtE
set_option linter.unusedVariables false
set_option linter.unusedSimpArgs false
namespace Go.AM
open Go Go.RowKit Go.Proofs
attribute [local irreducible] aL ce
set_option maxHeartbeats 2000000
theorem C4 {a0 : List api_Port} {r : List api_Port} (h : lQ a0 = some r) : db Try.prog 84 [.d (.vec (some 2) (List.map eapi_Port a0))] (aj []) 0 (.loc 0 0 r.length) (aj (mz r)) 1 := by
 cases a0 with
 | nil =>
  refine db.empty ?_ ?_
  ·
   have h : some ([] : List api_Port) = some r := by simpa [lQ, dc] using h
   refine db.inW rL ?_
   refine dX (s0 := ⟨tab [(0, .d (.nils))], aj [], 0⟩) (nr []) ?_
   refine am ?_
   refine qq ?_
   refine nI ?_
   refine aA ?_
   refine am ?_
   iterate 2 refine qq ?_
   refine nI ?_
   refine aV rfl rfl ?_
   refine am ?_
   refine qq ?_
   refine nI ?_
   cases sj h
   refine dX (s0 := ⟨tab [(2, .loc 0 0 (([] : List api_Port).length))], aj (mz ([] : List api_Port)), 1⟩) (bN.trans (s2 := ⟨tab [(2, .loc 0 0 (([] : List api_Port).length))], aj (mz ([] : List api_Port)), 1⟩) (kE 2 true (some 2) rfl) (nr [0])) ?_
   refine aX ?_
   exact ⟨.inr rfl, _, rfl, rfl, fH.sub ⟨rfl, trivial⟩, rfl⟩
  ·
   refine db.inW rL ?_
   refine dX (s0 := ⟨tab [(0, .mapr 0)], aj [], 0⟩) (nm [] ⟨.mp _, trivial⟩ trivial) ?_
   refine am ?_
   refine qq ?_
   refine nI ?_
   refine aA ?_
   refine aH ⟨tab [(0, gj ([] : List api_Port)), (4, vb false)], aj [], 0⟩ ?_ ?_
   ·
    iterate 2 refine qq ?_
    exact aL.nil' (nm [] ⟨.nne _ _, .d _, trivial⟩ trivial)
   refine aU rfl (by decide) ?_
   refine ba ?_
   obtain ⟨l1, hl1, h⟩ := aq h
   refine aH ⟨tab [(2, .loc 0 0 l1.length)], aj (mz l1), 1⟩ ?_ ?_
   ·
    refine qq ?_
    refine qq ?_
    refine step (fq (xs := ([] : List api_Port)) (ys := ([] : List api_Port)) (e := eapi_Port) hl1 rfl rfl rfl (fV (xs := ([] : List api_Port)) (e := eapi_Port) rfl)) ?_
    refine qq ?_
    exact nR [1]
   cases sj h
   refine aX ?_
   exact ⟨.inr rfl, _, rfl, rfl, fH.sub ⟨rfl, trivial⟩, rfl⟩
 | cons x xs =>
  refine db.inW rL ?_
  refine dX (s0 := ⟨tab [(0, gj (x :: xs))], aj [], 0⟩) (nr []) ?_
  refine am ?_
  refine qq ?_
  refine nI ?_
  refine aA ?_
  refine am ?_
  iterate 2 refine qq ?_
  refine nI ?_
  refine aU rfl (by decide) ?_
  refine ba ?_
  obtain ⟨l1, hl1, h⟩ := aq h
  refine aH ⟨tab [(2, .loc 0 0 l1.length)], aj (mz l1), 1⟩ ?_ ?_
  ·
   refine qq ?_
   refine qq ?_
   refine step (fq (xs := ([] : List api_Port)) (ys := (x :: xs)) (e := eapi_Port) hl1 rfl rfl rfl (fV (xs := (x :: xs)) (e := eapi_Port) rfl)) ?_
   refine qq ?_
   exact nR [1]
  cases sj h
  refine aX ?_
  exact ⟨.inr rfl, _, rfl, rfl, fH.sub ⟨rfl, trivial⟩, rfl⟩
theorem C5 {a0 : api_Topo} {r : Int} (h : nu a0 = some r) : PCall Try.prog 57 [eapi_Topo a0] (.int .i64 r) := by
 refine PCall.inW BM ?_; refine am ?_; refine q2 ?_; refine nI ?_; refine aA ?_; refine aH ⟨tab [(1, bn a0), (27, vb ((decide ((a0.Switches.length : Int) > 12)) || ((decide ((a0.Links.length : Int) > 24)) || (decide ((a0.Hosts.length : Int) > 24)))))], aj [], 0⟩ ?_ ?_
 · refine q2 ?_; refine step (bE (xs := a0.Switches) (e := (D.int .u16)) rfl) ?_; refine q2 ?_; by_cases hg1 : decide ((a0.Switches.length : Int) > 12) = true
   · (iterate 4 refine qX (decide ((a0.Switches.length : Int) > 12)) (by rw [hg1]; decide) ?_); refine step (aZ rfl hg1 rfl) ?_; refine qq ?_; (iterate 4 refine qX true (by decide) ?_); refine step (aZ rfl rfl rfl) ?_; exact aL.nil' (nm [] ⟨.d _, .eq (by first | (simp [hg1]; done) | (simp_all; done) | grind), trivial⟩ trivial)
   · refine gq (bf hg1) ?_; refine gq (bf hg1) ?_; refine qG _ (bf hg1) ?_; refine step (bE (xs := a0.Links) (e := (dL eapi_Port)) rfl) ?_; refine gq (bf hg1) ?_; refine step (bm rfl hg1 rfl) ?_; refine qq ?_; by_cases hg2 : decide ((a0.Links.length : Int) > 24) = true
     · (iterate 4 refine qX (decide ((a0.Links.length : Int) > 24)) (by rw [hg2]; decide) ?_); refine step (aZ rfl hg2 rfl) ?_; exact aL.nil' (nm [] ⟨.d _, .eq (by first | (simp [hg1, hg2]; done) | (simp_all; done) | grind), trivial⟩ trivial)
     · refine gq (bf hg2) ?_; refine gq (bf hg2) ?_; refine qG _ (bf hg2) ?_; refine step (bE (xs := a0.Hosts) (e := eapi_Port) rfl) ?_; refine gq (bf hg2) ?_; refine step (bm rfl hg2 rfl) ?_; exact aL.nil' (nm [] ⟨.d _, .eq (by first | (simp [hg1, hg2]; done) | (simp_all; done) | grind), trivial⟩ trivial)
 by_cases hc3 : ((decide ((a0.Switches.length : Int) > 12)) || ((decide ((a0.Links.length : Int) > 24)) || (decide ((a0.Hosts.length : Int) > 24)))) = true
 · replace h := aQ hc3 h; refine aV rfl hc3 ?_; refine am ?_; refine qq ?_; refine nI ?_; cases sj h; refine aX ?_; exact bI (.inr rfl) (aK rfl rfl) (RV.d trivial)
 · replace h := aR hc3 h; refine aU rfl hc3 ?_; refine ba ?_; refine aH ⟨tab [(1, bn a0), (3, .mref 0)], aj [(0, .mp (eM (D.int .u16) D.bool ([] : List (Int × Bool))))], 1⟩ ?_ ?_
   · refine q2 ?_; exact nR [0]
   refine aA ?_; refine am ?_; refine q2 ?_; refine step (bE (xs := a0.Switches) (e := (D.int .u16)) rfl) ?_; refine qq ?_; refine nT [(1, bn a0), (3, .mref 0), (30, cK a0.Switches), (31, vi (a0.Switches.length : Int)), (32, vi 0)] ?_; obtain ⟨z12, hl, h⟩ := aq h; refine bx ?_; refine fJ (cA (a0.Switches.length : Int)) (fun (i5 : Int) (qq : (List (Int × Bool))) => ⟨tab [(1, bn a0), (3, .mref 0), (30, cK a0.Switches), (31, vi (a0.Switches.length : Int)), (32, vi i5)], aj [(0, .mp (eM (D.int .u16) D.bool qq))], 1⟩) 0 (fun (qq : (List (Int × Bool))) => ⟨tab [(1, bn a0), (3, .mref 0)], aj [(0, .mp (eM (D.int .u16) D.bool qq))], 1⟩) bD cB hl (by unfold bD; omega) ?_ ?_ ?_
   · rintro i5 m4 xr10 hinv8 hgo7 h; have hc9 := dy hgo7; refine am ?_; refine qq ?_; refine nI ?_; refine cF 31 rfl fun hB6 => ?_; refine aA ?_; refine aV rfl hc9 ?_; refine ba ?_; refine aA ?_; refine bx ?_; obtain ⟨x11, hx11, h⟩ := aq h; refine am ?_; refine step (bU (xs := a0.Switches) (e := (D.int .u16)) hx11 rfl rfl) ?_; refine q2 ?_; refine nI ?_; refine dG ⟨tab [(1, bn a0), (3, .mref 0), (30, cK a0.Switches), (31, vi (a0.Switches.length : Int)), (32, vi i5)], aj [(0, .mp (eM (D.int .u16) D.bool (dN m4 x11 true)))], 1⟩ ?_ ?_
     · refine q2 ?_; refine step (vP (ev := D.bool) (m := m4) (k := x11) (w := true) (vO .u16) rfl rfl rfl rfl) ?_; exact nR [0]
     cases sj h; refine b7 (And.intro rfl rfl) ?_; refine step (cn (co hinv8 hgo7 hB6) rfl rfl) ?_; refine qq ?_; exact nR [0]
   · rintro i5 m4 hinv8 hgo7; have hc9 := dn hgo7; refine am ?_; refine qq ?_; refine nI ?_; refine aA ?_; refine aU rfl hc9 ?_; refine ca [(1, bn a0), (3, .mref 0)] ?_; refine cf ?_; exact ⟨rfl, rfl⟩
   obtain ⟨r13, hr13, h⟩ := aq h; refine aH ⟨tab [(1, bn a0), (3, .mref 0), (6, .loc 1 0 r13.length)], aj (k5 z12 r13), 2⟩ ?_ ?_
   · refine q2 ?_; refine lH (v := .loc 1 0 r13.length) (σ' := (ao (aj [(0, .mp (eM (D.int .u16) D.bool z12))]) 1 (some (.lst false (some 2) (List.map eapi_Port r13))))) (n' := 2) (m6 [] (db.frz (C4 hr13)) (show 0 ≤ 1 by decide) (by decide) (show ∀ i ∈ [], i < 1 by decide) (nn (show 0 < 1 by decide) np) (dh.c (.d _) dh.nil0) SN.nil0) (show 1 ≤ 2 by decide) ?_; refine qq ?_; exact nR [0, 1]
   refine aA ?_; refine am ?_; refine q2 ?_; refine step (bE (xs := a0.Links) (e := (dL eapi_Port)) rfl) ?_; refine qq ?_; refine nT [(1, bn a0), (3, .mref 0), (6, .loc 1 0 r13.length), (43, du a0.Links), (44, vi (a0.Links.length : Int)), (45, vi 0)] ?_; obtain ⟨z23, hl, h⟩ := aq h; refine bx ?_; refine fJ (cA (a0.Links.length : Int)) (fun (i15 : Int) (qq : (List api_Port)) => ⟨tab [(1, bn a0), (3, .mref 0), (6, .loc 1 0 qq.length), (43, du a0.Links), (44, vi (a0.Links.length : Int)), (45, vi i15)], aj (k5 z12 qq), 2⟩) 2 (fun (qq : (List api_Port)) => ⟨tab [(1, bn a0), (3, .mref 0), (6, .loc 1 0 qq.length)], aj (k5 z12 qq), 2⟩) bD cB hl (by unfold bD; omega) ?_ ?_ ?_
   · rintro i15 l14 xr20 hinv18 hgo17 h; have hc19 := dy hgo17; refine am ?_; refine qq ?_; refine nI ?_; refine cF 44 rfl fun hB16 => ?_; refine aA ?_; refine aV rfl hc19 ?_; refine ba ?_; refine aA ?_; refine bx ?_; obtain ⟨x21, hx21, h⟩ := aq h; refine aH ⟨tab [(1, bn a0), (3, .mref 0), (6, .loc 1 0 l14.length), (8, .ptr 2 0 0), (43, du a0.Links), (44, vi (a0.Links.length : Int)), (45, vi i15)], aj [(0, .mp (eM (D.int .u16) D.bool z12)), (1, .lst false (some 2) (List.map eapi_Port l14)), (2, .var [vh x21.a0.Sw, vh x21.a0.Pt, vh x21.a1.Sw, vh x21.a1.Pt])], 3⟩ ?_ ?_
     · refine step (bU (xs := a0.Links) (e := (dL eapi_Port)) hx21 rfl rfl) ?_; refine q3 ?_; exact nR [0, 1, 2]
     refine dX (s0 := ⟨tab [(1, bn a0), (3, .mref 0), (6, .loc 1 0 l14.length), (8, .d (.cptr (some 4) (dL eapi_Port x21) 0)), (43, du a0.Links), (44, vi (a0.Links.length : Int)), (45, vi i15)], aj (k5 z12 l14), 2⟩) (bN.trans (s2 := ⟨tab [(1, bn a0), (3, .mref 0), (6, .loc 1 0 l14.length), (8, .d (.cptr (some 4) (dL eapi_Port x21) 0)), (43, du a0.Links), (44, vi (a0.Links.length : Int)), (45, vi i15)], aj (k5 z12 l14), 2⟩) (BE 8 (id := 2) (j := 0) (ds := [.int .u16 x21.a0.Sw, .int .u16 x21.a0.Pt, .int .u16 x21.a1.Sw, .int .u16 x21.a1.Pt]) rfl rfl) (nr [0, 1])) ?_; obtain ⟨l22, hl22, h⟩ := aq h; refine dG ⟨tab [(1, bn a0), (3, .mref 0), (6, .loc 1 0 l22.length), (43, du a0.Links), (44, vi (a0.Links.length : Int)), (45, vi i15)], aj (k5 z12 l22), 2⟩ ?_ ?_
     · refine q2 ?_; refine step (fq (xs := l14) (ys := [x21.a0, x21.a1]) (e := eapi_Port) hl22 rfl rfl rfl (fV (xs := [x21.a0, x21.a1]) (e := eapi_Port) rfl)) ?_; refine qq ?_; exact nR [0, 2]
     cases sj h; refine b7 (And.intro rfl rfl) ?_; refine step (cn (co hinv18 hgo17 hB16) rfl rfl) ?_; refine qq ?_; exact nR [0, 1]
   · rintro i15 l14 hinv18 hgo17; have hc19 := dn hgo17; refine am ?_; refine qq ?_; refine nI ?_; refine aA ?_; refine aU rfl hc19 ?_; refine ca [(1, bn a0), (3, .mref 0), (6, .loc 1 0 l14.length)] ?_; refine cf ?_; exact ⟨rfl, rfl⟩
   refine aH ⟨tab [(1, bn a0), (3, .mref 0), (6, .loc 1 0 z23.length), (9, .mref 2)], aj (oQ z12 z23 ([] : List (api_Port × Bool))), 3⟩ ?_ ?_
   · refine q2 ?_; exact nR [0, 1, 2]
   refine aA ?_; refine am ?_; refine q3 ?_; refine nT [(1, bn a0), (3, .mref 0), (6, .loc 1 0 z23.length), (9, .mref 2), (54, .loc 1 0 z23.length), (55, vi (z23.length : Int)), (56, vi 0)] ?_; obtain ⟨q38, hl, h⟩ := aq h; refine bx ?_; refine dO (cA (z23.length : Int)) (fun (i25 : Int) (qq : (List (api_Port × Bool))) => ⟨tab [(1, bn a0), (3, .mref 0), (6, .loc 1 0 z23.length), (9, .mref 2), (54, .loc 1 0 z23.length), (55, vi (z23.length : Int)), (56, vi i25)], aj (oQ z12 z23 qq), 3⟩) 4 (fun (qq : (List (api_Port × Bool))) => ⟨tab [(1, bn a0), (3, .mref 0), (6, .loc 1 0 z23.length), (9, .mref 2)], aj (oQ z12 z23 qq), 3⟩) bD cB (r := r) hl (by unfold bD; omega) ?_ ?_ ?_ ?_
   · rintro i25 m24 xr30 hinv28 hgo27 h; have hc29 := dy hgo27; refine am ?_; refine qq ?_; refine nI ?_; refine cF 55 rfl fun hB26 => ?_; refine aA ?_; refine aV rfl hc29 ?_; refine ba ?_; refine aA ?_; refine bx ?_; obtain ⟨x31, hx31, h⟩ := aq h; refine aH ⟨tab [(1, bn a0), (3, .mref 0), (6, .loc 1 0 z23.length), (9, .mref 2), (11, .ptr 3 0 0), (54, .loc 1 0 z23.length), (55, vi (z23.length : Int)), (56, vi i25)], aj [(0, .mp (eM (D.int .u16) D.bool z12)), (1, .lst false (some 2) (List.map eapi_Port z23)), (2, .mp (eM eapi_Port D.bool m24)), (3, .var [vh x31.Sw, vh x31.Pt])], 4⟩ ?_ ?_
     · refine step (iA (xs := z23) (e := eapi_Port) hx31 rfl rfl rfl rfl) ?_; refine step (iV (xs := z23) (e := eapi_Port) hx31 rfl rfl rfl) ?_; refine q2 ?_; exact nR [0, 1, 2, 3]
     refine aA ?_; refine am ?_; refine q3 ?_; refine step (Bi (ev := D.bool) (m := z12) (k := x31.Sw) (vO .u16) false rfl rfl rfl rfl) ?_; refine qq ?_; refine nI ?_; by_cases hc32 : (!((mget z12 x31.Sw).getD false)) = true
     · replace h := aQ hc32 h; refine aV rfl hc32 ?_; refine aH ⟨tab [(2, vi 12)], aj [], 0⟩ ?_ ?_
       · refine qq ?_; exact nR []
       obtain ⟨r33, kr33, hr⟩ := cR (o := some 12) (g := Br.ret) h; subst hr; have h := kr33; cases sj h; refine aX ?_; refine And.intro (fun hn => nomatch hn) ?_; intro hq; have hq := hq.symm; subst hq; exact bI (.inr rfl) (aK rfl rfl) (RV.d trivial)
     · replace h := aR hc32 h; refine aU rfl hc32 ?_; refine ba ?_; refine dG ⟨tab [(1, bn a0), (3, .mref 0), (6, .loc 1 0 z23.length), (9, .mref 2), (54, .loc 1 0 z23.length), (55, vi (z23.length : Int)), (56, vi i25)], aj (oQ z12 z23 (dN m24 x31 true)), 3⟩ ?_ ?_
       · refine qq ?_; refine step (dH (ds := [.int .u16 x31.Sw, .int .u16 x31.Pt]) rfl rfl (show 2 ≤ 2 by decide) rfl) ?_; refine step (vP (ev := D.bool) (m := m24) (k := x31) (w := true) BI rfl rfl rfl rfl) ?_; exact nR [0, 1, 2]
       cases sj h; refine b7 (And.intro rfl rfl) ?_; refine step (cn (co hinv28 hgo27 hB26) rfl rfl) ?_; refine qq ?_; exact nR [0, 1, 2]
   · rintro i25 m24 hinv28 hgo27; have hc29 := dn hgo27; refine am ?_; refine qq ?_; refine nI ?_; refine aA ?_; refine aU rfl hc29 ?_; refine ca [(1, bn a0), (3, .mref 0), (6, .loc 1 0 z23.length), (9, .mref 2)] ?_; refine cf ?_; exact ⟨rfl, rfl⟩
   · intro r' hq; subst hq; exact bJ h
   rintro z33 rfl; refine aA ?_; refine bx ?_; obtain ⟨n34, hn34, h⟩ := aq h; refine aH ⟨tab [(6, .loc 0 0 z23.length), (9, .mref 1), (68, vb (decide (n34 < (a0.Switches.length : Int))))], aj [(0, .lst false (some 2) (List.map eapi_Port z23)), (1, .mp (eM eapi_Port D.bool z33))], 2⟩ ?_ ?_
   · refine qq ?_; refine step (v := vi n34) (iW (vQ rfl rfl (oO hn34).1) (by rw [(oO hn34).2])) ?_; refine q2 ?_; refine step (bE (xs := a0.Switches) (e := (D.int .u16)) rfl) ?_; refine q2 ?_; exact nR [1, 2]
   by_cases hc35 : decide (n34 < (a0.Switches.length : Int)) = true
   · replace h := aQ hc35 h; refine aV rfl hc35 ?_; refine aH ⟨tab [(2, vi 12)], aj [], 0⟩ ?_ ?_
     · refine qq ?_; exact nR []
     cases sj h; refine aX ?_; exact bI (.inr rfl) (aK rfl rfl) (RV.d trivial)
   · replace h := aR hc35 h; refine aU rfl hc35 ?_; obtain ⟨n36, hn36, h⟩ := aq h; refine aH ⟨tab [(75, vb (decide (n36 < (z23.length : Int))))], aj [], 0⟩ ?_ ?_
     · refine qq ?_; refine step (v := vi n36) (iW (vQ rfl rfl (oO hn36).1) (by rw [(oO hn36).2])) ?_; refine q4 ?_; exact nR []
     by_cases hc37 : decide (n36 < (z23.length : Int)) = true
     · replace h := aQ hc37 h; refine aV rfl hc37 ?_; refine am ?_; refine qq ?_; refine nI ?_; cases sj h; refine aX ?_; exact bI (.inr rfl) (aK rfl rfl) (RV.d trivial)
     · replace h := aR hc37 h; refine aU rfl hc37 ?_; refine ba ?_; refine am ?_; refine qq ?_; refine nI ?_; cases sj h; refine aX ?_; exact bI (.inr rfl) (aK rfl rfl) (RV.d trivial)
theorem vV {a0 : Int} {a1 : api_Topo} {r : Bool} (h : nv a0 a1 = some r) : PCall Try.prog 85 [.int .i64 a0, .cptr (some 3) (eapi_Topo a1) 0] (.bool r) := by
 refine PCall.inW BO ?_; refine am ?_; refine qq ?_; refine nI ?_; refine aH ⟨tab [(3, vb ((decide (a0 ≥ 0)) && (decide (a0 < (a1.Hosts.length : Int)))))], aj [], 0⟩ ?_ ?_
 · refine q3 ?_; by_cases hg1 : decide (a0 ≥ 0) = true
   · refine gq hg1 ?_; refine gq hg1 ?_; refine gq hg1 ?_; refine qG _ hg1 ?_; refine step (bE (xs := a1.Hosts) (e := eapi_Port) rfl) ?_; refine gq hg1 ?_; refine step (aZ rfl hg1 rfl) ?_; refine qq ?_; exact aL.nil' (nm [] ⟨.eq (by first | (simp [hg1]; done) | (simp_all; done) | grind), trivial⟩ trivial)
   · (iterate 5 refine gX hg1 ?_); refine step (bm rfl hg1 rfl) ?_; refine qq ?_; exact aL.nil' (nm [] ⟨.eq (by first | (simp [hg1]; done) | (simp_all; done) | grind), trivial⟩ trivial)
 cases sj h; refine aX ?_; exact bI (.inr rfl) (aK rfl rfl) (RV.d trivial)
theorem C6 {a0 : (List Int)} {a1 : Int} {r : Int} (h : nw a0 a1 = some r) : PCall Try.prog 114 [eL none (D.int .u16) a0, .int .u16 a1] (.int .i64 r) := by
 refine PCall.inW BQ ?_; refine am ?_; refine qq ?_; refine nI ?_; refine aA ?_; refine am ?_; refine qq ?_; refine step (bE (xs := a0) (e := (D.int .u16)) rfl) ?_; refine qq ?_; refine nT [(0, cK a0), (1, vh a1), (7, vi (a0.length : Int)), (8, vi 0)] ?_; obtain ⟨q9, hl, h⟩ := aq h; refine bx ?_; refine dO (cA (a0.length : Int)) (fun (i1 : Int) (qq : Unit) => ⟨tab [(0, cK a0), (1, vh a1), (7, vi (a0.length : Int)), (8, vi i1)], aj [], 0⟩) 0 (fun (qq : Unit) => ⟨tab [], aj [], 0⟩) bD cB (r := r) hl (by unfold bD; omega) ?_ ?_ ?_ ?_
 · rintro i1 ⟨⟩ xr6 hinv4 hgo3 h; have hc5 := dy hgo3; refine am ?_; refine qq ?_; refine nI ?_; refine cF 7 rfl fun hB2 => ?_; refine aA ?_; refine aV rfl hc5 ?_; refine ba ?_; refine aA ?_; refine bx ?_; refine am ?_; refine q2 ?_; refine nI ?_; obtain ⟨x7, hx7, h⟩ := aq h; refine am ?_; refine q3 ?_; refine step (bU (xs := a0) (e := (D.int .u16)) hx7 rfl rfl) ?_; refine q2 ?_; refine nI ?_; by_cases hc8 : (a1 == x7) = true
   · replace h := aQ hc8 h; refine aV rfl hc8 ?_; refine am ?_; refine q2 ?_; refine nI ?_; obtain ⟨r9, kr9, hr⟩ := cR (o := some i1) (g := Br.ret) h; subst hr; have h := kr9; cases sj h; refine aX ?_; refine And.intro (fun hn => nomatch hn) ?_; intro hq; have hq := hq.symm; subst hq; exact bI (.inr rfl) (aK rfl rfl) (RV.d trivial)
   · replace h := aR hc8 h; refine aU rfl hc8 ?_; refine ba ?_; cases sj h; refine b7 (And.intro rfl rfl) ?_; refine step (cn (co hinv4 hgo3 hB2) rfl rfl) ?_; refine qq ?_; exact nR []
 · rintro i1 ⟨⟩ hinv4 hgo3; have hc5 := dn hgo3; refine am ?_; refine qq ?_; refine nI ?_; refine aA ?_; refine aU rfl hc5 ?_; refine ca [] ?_; refine cf ?_; exact ⟨rfl, rfl⟩
 · intro r' hq; subst hq; exact bJ h
 rintro ⟨⟩ rfl; refine aH ⟨tab [(4, vi (-1))], aj [], 0⟩ ?_ ?_
 · refine qq ?_; exact nR []
 cases sj h; refine aX ?_; exact bI (.inr rfl) (aK rfl rfl) (RV.d trivial)
theorem oS {a0 : api_Topo} {a1 : Int} {r : (Int × Bool)} (h : jS a0 a1 = some r) : PCall Try.prog 103 [eapi_Topo a0, .int .u16 a1] (.tup [.int .i64 r.1, .bool r.2]) := by
 refine PCall.inW BR ?_; refine am ?_; refine q3 ?_; refine nI ?_; obtain ⟨r1, hr1, h⟩ := aq h; refine am ?_; refine q3 ?_; refine bP (aM (aM bh.nil')) (C6 hr1) ?_; refine qq ?_; refine nO ?_; refine q4 ?_; refine q2 ?_; refine nI ?_; cases sj h; refine aX ?_; exact cd (.inr rfl) (aK rfl (aK rfl rfl)) (RV.d (RV.d trivial))
theorem C7 {a0 : (List Int)} {r : (List Int)} (h : lS a0 = some r) : db Try.prog 125 [.loc 0 0 a0.length] (aj (eN a0)) 1 (.loc 0 0 r.length) (aj (eN r)) 1 := by
 refine db.inW BU ?_; refine am ?_; refine qq ?_; refine nI ?_; refine aA ?_; refine am ?_; refine q3 ?_; refine nI ?_; by_cases hc1 : decide ((a0.length : Int) < 2) = true
 · replace h := aQ hc1 h; refine aV rfl hc1 ?_; refine am ?_; refine q2 ?_; refine nI ?_; cases sj h; refine aX ?_; exact ⟨.inr rfl, _, rfl, rfl, fH.sub ⟨rfl, trivial⟩, rfl⟩
 · replace h := aR hc1 h; refine aU rfl hc1 ?_; refine ba ?_; refine aA ?_; refine am ?_; refine qq ?_; refine nT [(0, .loc 0 0 a0.length), (3, vi 1)] ?_; obtain ⟨q34, hl, h⟩ := aq h; refine bx ?_; refine dO (cA (a0.length : Int)) (fun (i2 : Int) (qq : Unit) => ⟨tab [(0, .loc 0 0 a0.length), (3, vi i2)], aj (eN a0), 1⟩) 0 (fun (qq : Unit) => ⟨tab [(0, .loc 0 0 a0.length)], aj (eN a0), 1⟩) bD cB (r := r) hl (by unfold bD; omega) ?_ ?_ ?_ ?_
   · rintro i2 ⟨⟩ xr7 hinv5 hgo4 h; have hc6 := dy hgo4; refine aA ?_; refine am ?_; refine q4 ?_; refine nI ?_; refine cF 12 rfl fun hB3 => ?_; refine aV rfl hc6 ?_; refine ba ?_; refine aA ?_; refine bx ?_; obtain ⟨x8, hx8, h⟩ := aq h; obtain ⟨x9, hx9, h⟩ := aq h; refine am ?_; refine q2 ?_; refine step (iA (xs := a0) (e := (D.int .i64)) hx8 rfl rfl rfl rfl) ?_; refine step (iV (xs := a0) (e := (D.int .i64)) hx8 rfl rfl rfl) ?_; refine q3 ?_; refine step (iA (xs := a0) (e := (D.int .i64)) hx9 rfl rfl rfl rfl) ?_; refine step (iV (xs := a0) (e := (D.int .i64)) hx9 rfl rfl rfl) ?_; refine qq ?_; refine nI ?_; by_cases hc10 : (x8 == x9) = true
     · replace h := aQ hc10 h; refine aV rfl hc10 ?_; obtain ⟨l11, hl11, h⟩ := aq h; refine am ?_; refine q2 ?_; refine step (tI (xs := a0) (e := (D.int .i64)) hl11 rfl rfl rfl ⟨_, rfl⟩ rfl) ?_; refine qq ?_; refine nI ?_; refine aA ?_; refine am ?_; refine qq ?_; refine nT [(0, .loc 0 0 a0.length), (3, vi i2), (4, .loc 0 i2.toNat ((a0.length : Int).toNat - i2.toNat)), (5, vi 1)] ?_; obtain ⟨q33, hl, h⟩ := aq h; obtain ⟨z30, z31⟩ := q33; refine bx ?_; refine fJ (cA (l11.length : Int)) (fun (i14 : Int) (qq : ((List Int) × Int)) => ⟨tab [(0, .loc 0 0 qq.1.length), (3, vi qq.2), (4, .loc 0 i2.toNat ((a0.length : Int).toNat - i2.toNat)), (5, vi i14)], aj (eN qq.1), 1⟩) 2 (fun (qq : ((List Int) × Int)) => ⟨tab [(0, .loc 0 0 qq.1.length), (3, vi qq.2)], aj (eN qq.1), 1⟩) bD cB hl (by unfold bD; omega) ?_ ?_ ?_
       · rintro i14 ⟨l12, i13⟩ xr19 hinv17 hgo16 h; have hc18 := dy hgo16; refine aA ?_; refine am ?_; refine q2 ?_; refine step (tL (lo := i2) (hi := (a0.length : Int)) rfl hl11) ?_; refine qq ?_; refine nI ?_; refine cF 31 rfl fun hB15 => ?_; refine aV rfl hc18 ?_; refine ba ?_; obtain ⟨q29, hv, h⟩ := aq h; obtain ⟨l27, y28⟩ := q29; refine gz ⟨tab [(0, .loc 0 0 l27.length), (3, vi y28), (4, .loc 0 i2.toNat ((a0.length : Int).toNat - i2.toNat)), (5, vi i14)], aj (eN l27), 1⟩ ?_ ?_
         · replace h := hv; refine bx ?_; obtain ⟨x20, hx20, h⟩ := aq h; obtain ⟨x21, hx21, h⟩ := aq h; obtain ⟨x22, hx22, h⟩ := aq h; obtain ⟨x23, hx23, h⟩ := aq h; refine am ?_; refine q2 ?_; refine step (rH (xs := l12) (e := (D.int .i64)) hx20 rfl rfl rfl) ?_; refine step (iV (xs := l12) (e := (D.int .i64)) hx21 rfl rfl rfl) ?_; refine q3 ?_; refine step (rH (xs := l12) (e := (D.int .i64)) hx22 rfl rfl rfl) ?_; refine step (iV (xs := l12) (e := (D.int .i64)) hx23 rfl rfl rfl) ?_; refine qq ?_; refine nI ?_; by_cases hc24 : (x21 != x23) = true
           · replace h := aQ hc24 h; refine aV rfl hc24 ?_; obtain ⟨x25, hx25, h⟩ := aq h; obtain ⟨l26, hl26, h⟩ := aq h; refine aH ⟨tab [(0, .loc 0 0 l26.length), (3, vi i13), (4, .loc 0 i2.toNat ((a0.length : Int).toNat - i2.toNat)), (5, vi i14)], aj (eN l26), 1⟩ ?_ ?_
             · refine q4 ?_; refine step (rH (xs := l12) (e := (D.int .i64)) hx20 rfl rfl rfl) ?_; refine step (iV (xs := l12) (e := (D.int .i64)) hx21 rfl rfl rfl) ?_; refine step (iA (xs := l12) (e := (D.int .i64)) hx25 rfl rfl rfl rfl) ?_; refine step (ni (e := (D.int .i64)) (v' := x21) hl26 rfl rfl rfl rfl rfl) ?_; exact aL.nil' (nm [0] ⟨.le (id := 0) (nf hl26).symm (show 0 < 1 by decide), .d _, .lc 0, .d _, trivial⟩ ⟨⟨show 0 < 1 by decide, _, rfl, .lst _ _ _⟩, trivial⟩)
             cases sj h; refine b7 (And.intro rfl rfl) ?_; refine q3 ?_; exact nR [0]
           · replace h := aR hc24 h; refine aU rfl hc24 ?_; cases sj h; refine ca [(0, .loc 0 0 l12.length), (3, vi i13), (4, .loc 0 i2.toNat ((a0.length : Int).toNat - i2.toNat)), (5, vi i14)] ?_; refine ba ?_; exact ⟨rfl, rfl⟩
         cases sj h; refine b7 (And.intro rfl rfl) ?_; refine qq ?_; refine step (cn (co hinv17 hgo16 hB15) rfl rfl) ?_; refine qq ?_; exact nR [0]
       · rintro i14 ⟨l12, i13⟩ hinv17 hgo16; have hc18 := dn hgo16; refine aA ?_; refine am ?_; refine q2 ?_; refine step (tL (lo := i2) (hi := (a0.length : Int)) rfl hl11) ?_; refine qq ?_; refine nI ?_; refine aU rfl hc18 ?_; refine ca [(0, .loc 0 0 l12.length), (3, vi i13)] ?_; refine cf ?_; exact ⟨rfl, rfl⟩
       obtain ⟨l32, hl32, h⟩ := aq h; refine aH ⟨tab [(0, .loc 0 0 z30.length), (3, vi z31)], aj (eN (z30.take z31.toNat)), 1⟩ ?_ ?_
       · refine q2 ?_; refine step (tI (xs := z30) (e := (D.int .i64)) hl32 rfl rfl rfl ⟨_, rfl⟩ rfl) ?_; refine step (yK (xs := z30) (e := (D.int .i64)) rfl rfl (by have := pP hl32; omega)) ?_; exact nR [0]
       refine am ?_; refine q2 ?_; refine step (yL (xs := z30) (e := (D.int .i64)) hl32 rfl rfl rfl rfl ⟨_, rfl⟩) ?_; refine qq ?_; refine nI ?_; obtain ⟨r33, kr33, hr⟩ := cR (o := some (z30.take z31.toNat)) (g := Br.ret) h; subst hr; have h := kr33; cases sj h; refine aX ?_; refine And.intro (fun hn => nomatch hn) ?_; intro hq; have hq := hq.symm; subst hq; exact ⟨.inr rfl, _, rfl, rfl, fH.sub ⟨rfl, trivial⟩, rfl⟩
     · replace h := aR hc10 h; refine aU rfl hc10 ?_; refine ba ?_; cases sj h; refine b7 (And.intro rfl rfl) ?_; refine qq ?_; refine step (cn (co hinv5 hgo4 hB3) rfl rfl) ?_; refine qq ?_; exact nR [0]
   · rintro i2 ⟨⟩ hinv5 hgo4; have hc6 := dn hgo4; refine aA ?_; refine am ?_; refine q4 ?_; refine nT [(0, .loc 0 0 a0.length), (3, vi i2), (13, vb (decide (i2 < (a0.length : Int))))] ?_; refine aU rfl hc6 ?_; refine ca [(0, .loc 0 0 a0.length)] ?_; refine cf ?_; exact ⟨rfl, rfl⟩
   · intro r' hq; subst hq; exact bJ h
   rintro ⟨⟩ rfl; refine aH ⟨tab [(2, .loc 0 0 a0.length)], aj (eN a0), 1⟩ ?_ ?_
   · refine q2 ?_; exact nR [0]
   cases sj h; refine aX ?_; exact ⟨.inr rfl, _, rfl, rfl, fH.sub ⟨rfl, trivial⟩, rfl⟩
def oG (g : List (List Int)) : aE := jq [(0, .var (cJ 2 g))] 2 g
def k6 (g : List (List Int)) (cs : List V) : aE := jq [(0, .var (cJ 2 g)), (1, .var cs)] 2 g
theorem jt {g : List (List Int)} {i : Nat} {l : List Int} (h : g[i]? = some l) : oG g (2 + i) = some (.lst true none (l.map (D.int .i64))) := mw h
theorem f6 {g : List (List Int)} {T : Nat → V} {n : Nat} {l : List (Nat × V)} (hT : TN id (2 + g.length) T l) : bN 0 ⟨T, oG g, n⟩ ⟨tab l, oG g, 2 + g.length⟩ :=
 vR (by omega) hT (by intro p hp; simp at hp; subst hp; show 0 < 2; decide) ⟨⟨by show 0 < _; omega, _, rfl, .locs rfl rfl⟩, trivial⟩
theorem C8 {g : List (List Int)} {T : Nat → V} {n : Nat} {l : List (Nat × V)} {cs : List V} {σ : aE} (h0 : σ 0 = some (.var (cJ 2 g))) (h1 : σ n = some (.var cs)) (hcs : BN (fun id => if id = 1 then n else id) (2 + g.length) (.var cs) (.var cs)) (hin : ∀ i l, g[i]? = some l → σ (2 + i) = some (.lst true none (l.map (D.int .i64))))
 (hn : n = 2 + g.length) (hT : TN (fun id => if id = 1 then n else id) (2 + g.length) T l) : bN 0 ⟨T, σ, n + 1⟩ ⟨tab l, k6 g cs, 2 + g.length⟩ := by
 refine bN.fam (fun id => if id = 1 then n else id) (fun id h => by omega) (fun x y hx hy e => ?_) (by omega) hT (by intro p hp; simp at hp; rcases hp with rfl | rfl; (show 0 < 2; decide); (show 1 < 2; decide)) ⟨⟨by show 0 < _; omega, _, h0, .locs ?_ rfl⟩, ⟨by show 1 < _; omega, _, h1, hcs⟩, trivial⟩ (fun i l h => ?_)
 · split at e <;> split at e <;> omega
 · unfold cJ gW; congr 1; funext i l; have : ¬ (2 + i = 1) := by omega
   simp only [id, this, if_false]
 · have : ¬ (2 + i = 1) := by omega
   simp only [this, if_false]; exact hin i l h
theorem oT {T : Nat → V} {σ : aE} {n : Nat} {x : AX} {g : List (List Int)} {j : Nat} {l : List Int} {cs : List V} (hx : az T x = .ptr 0 j 0) (h0 : σ 0 = some (.var cs)) (hg : cs[j]? = some (.loc (2 + j) 0 l.length)) : aC (.load none x) (az T) σ n = some (.loc (2 + j) 0 l.length, σ, n) := by
 simp only [aC, hx, cO, h0, Nat.add_zero, fB, hg, Option.map_some]
theorem vW {T : Nat → V} {σ : aE} {n : Nat} {x y : AX} {id : Nat} {la la2 : List Int} {b : Int} {m : Bool} (hx : az T x = .loc id 0 la.length) (hy : az T y = .d (.vec none [.int .i64 b])) (hid : σ id = some (.lst true none (la.map (D.int .i64)))) (hl : dc la [b] = some la2) :
 aC (.append none x y m) (az T) σ n = some (.loc n 0 la2.length, ao (ao σ id none) n (some (.lst true none (la2.map (D.int .i64)))), n + 1) := by
 unfold dc at hl; split at hl
 · rename_i hle; cases hl; have e1 : eW σ none (.d (.vec none [D.int .i64 b])) = some [D.int .i64 b] := by simp [eW, fk, cu, dV]
   simp only [aC, eC, hx, hy, e1, hid]; rw [if_pos ⟨trivial, by simp, by simpa [fC] using hle⟩]; simp
 · cases hl
theorem rO {T : Nat → V} {σ : aE} {n : Nat} {a x : AX} {j id len : Nat} {cs : List V} (ha : az T a = .ptr 0 j 0) (hx : az T x = .loc id 0 len) (h0 : σ 0 = some (.var cs)) (hj : j < cs.length) : aC (.store none a x) (az T) σ n = some (V.undef, ao σ 0 (some (.var (cs.set j (.loc id 0 len)))), n) := by
 have e1 : eO σ none (.ptr 0 j 0) (.loc id 0 len) = some (ao σ 0 (some (.var (cs.set j (.loc id 0 len))))) := by
  unfold eO
  simp only [h0]
  rw [if_pos ⟨rfl, rfl, by show j + 0 + 1 ≤ _; omega⟩]
  have : cs.take (j + 0) ++ (V.loc id 0 len).cells ++ cs.drop (j + 0 + al none) = cs.set j (.loc id 0 len) := By cs j _ hj
  rw [this]
 simp [aC, ha, hx, e1]
theorem mA {α : Type} {l : List α} {i : Int} {x : α} (h : aW l i = some x) : 0 ≤ i ∧ l[i.toNat]? = some x ∧ i.toNat < l.length := by
 unfold aW at h; split at h
 · exact ⟨by assumption, h, (List.getElem?_eq_some_iff.1 h).1⟩
 · cases h
theorem rP {α : Type} {l l2 : List α} {i : Int} {x : α} (h : c7 l i x = some l2) : l2 = l.set i.toNat x ∧ i.toNat < l.length := by
 unfold c7 at h; split at h
 · split at h
   · cases h; exact ⟨rfl, by assumption⟩
   · cases h
 · cases h
theorem vX {g : List (List Int)} {T : Nat → V} {n m : Nat} {l : List (Nat × V)} {σ : aE} {j : Nat} {r : List Int} (hj : j < g.length) (hm : m = 2 + j ∨ 2 + g.length ≤ m) (h0 : σ 0 = some (.var ((cJ 2 g).set j (.loc m 0 r.length)))) (h1 : σ m = some (.lst true none (r.map (D.int .i64)))) (hin : ∀ i l, i ≠ j → g[i]? = some l → σ (2 + i) = some (.lst true none (l.map (D.int .i64))))
 (hT : TN (fun id => if id = 2 + j then m else id) (2 + (g.set j r).length) T l) : bN 0 ⟨T, σ, n⟩ ⟨tab l, oG (g.set j r), 2 + (g.set j r).length⟩ := by
 have hlen : (g.set j r).length = g.length := by simp
 refine bN.fam (fun id => if id = 2 + j then m else id) (fun id h => by omega) (fun x y hx hy e => ?_) (by omega) hT (by intro p hp; simp at hp; subst hp; show 0 < 2; decide) ⟨⟨by show 0 < _; omega, _, by simpa [show ¬ (0 = 2 + j) by omega] using h0, .locs (Bx hj) rfl⟩, trivial⟩ (fun i l h => ?_)
 · rw [hlen] at hx hy; split at e <;> split at e <;> omega
 · rw [List.getElem?_set] at h; by_cases e : j = i
   · subst e; rw [if_pos rfl, if_pos hj] at h; cases h; simpa using h1
   · rw [if_neg e] at h; have : ¬ (2 + i = 2 + j) := by omega
     simp only [this, if_false]; exact hin i l (Ne.symm e) h
theorem C9 {g : List (List Int)} {T : Nat → V} {n m : Nat} {l : List (Nat × V)} {σ : aE} {j k : Nat} {r q : List Int} (hj : j < g.length) (hk : k < g.length) (hjk : j ≠ k) (hm : m = 2 + g.length) (h0 : σ 0 = some (.var (((cJ 2 g).set j (.loc m 0 r.length)).set k (.loc (m + 1) 0 q.length)))) (h1 : σ m = some (.lst true none (r.map (D.int .i64)))) (h2 : σ (m + 1) = some (.lst true none (q.map (D.int .i64))))
 (hin : ∀ i l, i ≠ j → i ≠ k → g[i]? = some l → σ (2 + i) = some (.lst true none (l.map (D.int .i64)))) (hT : TN (fun id => if id = 2 + j then m else if id = 2 + k then m + 1 else id) (2 + ((g.set j r).set k q).length) T l) : bN 0 ⟨T, σ, n⟩ ⟨tab l, oG ((g.set j r).set k q), 2 + ((g.set j r).set k q).length⟩ := by
 have hlen : ((g.set j r).set k q).length = g.length := by simp
 refine bN.fam (fun id => if id = 2 + j then m else if id = 2 + k then m + 1 else id) (fun id h => by omega) (fun x y hx hy e => ?_) (by omega) hT (by intro p hp; simp at hp; subst hp; show 0 < 2; decide) ⟨⟨by show 0 < _; omega, _, by simpa [show ¬ (0 = 2 + j) by omega, show ¬ (0 = 2 + k) by omega] using h0, .locs ?_ rfl⟩, trivial⟩ (fun i l h => ?_)
 · rw [hlen] at hx hy; split at e <;> split at e <;> (try split at e) <;> (try split at e) <;> omega
 · apply List.ext_getElem?; intro i; rw [rI, List.getElem?_set, List.getElem?_set, List.getElem?_set, List.getElem?_set, List.length_set, List.length_set, iL]; by_cases e : k = i
   · subst e; have e1 : ¬ (k = j) := fun h => hjk h.symm; simp [hk, e1]
   · rw [if_neg e, if_neg e]; by_cases e2 : j = i
     · subst e2; simp [hj]
     · have e3 : ¬ (2 + i = 2 + j) := by omega
       have e4 : ¬ (2 + i = 2 + k) := by omega
       rw [if_neg e2, if_neg e2, iK, if_neg e3, if_neg e4]
 · rw [List.getElem?_set, List.getElem?_set, List.length_set] at h; by_cases e : k = i
   · subst e; rw [if_pos rfl, if_pos hk] at h; cases h; have e1 : ¬ (k = j) := fun h => hjk h.symm; simpa [e1] using h2
   · rw [if_neg e] at h; by_cases e2 : j = i
     · subst e2; rw [if_pos rfl, if_pos hj] at h; cases h; simpa using h1
     · rw [if_neg e2] at h; have e3 : ¬ (2 + i = 2 + j) := by omega
       have e4 : ¬ (2 + i = 2 + k) := by omega
       simp only [e3, e4, if_false]; exact hin i l (Ne.symm e2) (Ne.symm e) h
theorem VN.l0 {ρ : Nat → Nat} {n0 a b : Nat} (h : a = b) (h0 : ρ 0 = 0) (hn : 0 < n0) : VN ρ n0 (.loc 0 0 a) (.loc 0 0 b) := by
 subst h; have := VN.loc (ρ := ρ) 0 0 a hn; rwa [h0] at this
def Da : bC :=
 (.seq (.ops false [
  ⟨some 21, .bin .lss (.t 20) (.t 19), none⟩])
  (.seq (.cond (.t 21)
   (.skip)
   (.exit 0))
  (.seq (.block 1 (.seq (.ops false [
   ⟨some 22, .mov (.t 20), none⟩,
   ⟨some 23, .iaddr (some 4) (.t 18) (.t 20), none⟩,
   ⟨some 24, .load (some 4) (.t 23), none⟩,
   ⟨some 7, .alloc [.int .u16 0, .int .u16 0, .int .u16 0, .int .u16 0], none⟩,
   ⟨some 6, .mov (.t 22), none⟩,
   ⟨none, .store (some 4) (.t 7) (.t 24), none⟩])
   (.seq (.ops false [
    ⟨some 26, .ldI (some 3) (.t 2), none⟩,
    ⟨some 27, .iaddrA 2 (some 2) (.t 7) (.c (.int .i64 0)), none⟩,
    ⟨some 28, .faddr 0 (.t 27), none⟩,
    ⟨some 29, .load none (.t 28), none⟩,
    ⟨some 30, .call false 103 [(.t 26), (.t 29)], none⟩,
    ⟨some 25, .mov (.t 30), none⟩,
    ⟨some 31, .extract (.t 25) 0, none⟩,
    ⟨some 32, .extract (.t 25) 1, none⟩,
    ⟨some 8, .mov (.t 31), none⟩,
    ⟨some 9, .mov (.t 32), none⟩])
   (.seq (.ops false [
    ⟨some 34, .ldI (some 3) (.t 2), none⟩,
    ⟨some 35, .iaddrA 2 (some 2) (.t 7) (.c (.int .i64 1)), none⟩,
    ⟨some 36, .faddr 0 (.t 35), none⟩,
    ⟨some 37, .load none (.t 36), none⟩,
    ⟨some 38, .call false 103 [(.t 34), (.t 37)], none⟩,
    ⟨some 33, .mov (.t 38), none⟩,
    ⟨some 39, .extract (.t 33) 0, none⟩,
    ⟨some 40, .extract (.t 33) 1, none⟩,
    ⟨some 10, .mov (.t 39), none⟩,
    ⟨some 11, .mov (.t 40), none⟩])
   (.seq (.seq (.ops false [
    ⟨some 41, .mov (.t 9), none⟩,
    ⟨some 42, .un .not (.t 41), none⟩,
    ⟨some 43, .mov (.t 42), none⟩,
    ⟨some 44, .mov (.t 11), some (43, false)⟩,
    ⟨some 45, .un .not (.t 44), some (43, false)⟩,
    ⟨some 46, .pick (.t 43) (.c (.bool true)) (.t 45), none⟩,
    ⟨some 47, .mov (.t 46), none⟩,
    ⟨some 48, .mov (.t 8), some (47, false)⟩,
    ⟨some 49, .mov (.t 10), some (47, false)⟩,
    ⟨some 50, .bin .eql (.t 48) (.t 49), some (47, false)⟩,
    ⟨some 51, .pick (.t 47) (.c (.bool true)) (.t 50), none⟩,
    ⟨some 52, .mov (.t 51), none⟩,
    ⟨some 53, .mov (.t 6), some (52, false)⟩,
    ⟨some 54, .mov (.t 1), some (52, false)⟩,
    ⟨some 55, .bin .eql (.t 53) (.t 54), some (52, false)⟩,
    ⟨some 56, .pick (.t 52) (.c (.bool true)) (.t 55), none⟩])
    (.cond (.t 56)
    (.exit 1)
    (.skip)))
   (.opsS [(10, 13), (10, 14)] [
    ⟨some 57, .mov (.t 5), none⟩,
    ⟨some 58, .mov (.t 8), none⟩,
    ⟨some 59, .mov (.t 5), none⟩,
    ⟨some 60, .mov (.t 10), none⟩,
    ⟨some 61, .mov (.t 5), none⟩,
    ⟨some 62, .mov (.t 8), none⟩,
    ⟨some 63, .iaddr none (.t 61) (.t 62), none⟩,
    ⟨some 64, .load none (.t 63), none⟩,
    ⟨some 65, .mov (.t 10), none⟩,
    ⟨some 66, .bsliceI none [(.t 65)], none⟩,
    ⟨some 67, .append none (.t 64) (.t 66) false, none⟩,
    ⟨some 68, .mov (.t 5), none⟩,
    ⟨some 69, .mov (.t 10), none⟩,
    ⟨some 70, .iaddr none (.t 68) (.t 69), none⟩,
    ⟨some 71, .load none (.t 70), none⟩,
    ⟨some 72, .mov (.t 8), none⟩,
    ⟨some 73, .bsliceI none [(.t 72)], none⟩,
    ⟨some 74, .append none (.t 71) (.t 73) false, none⟩,
    ⟨some 75, .iaddr none (.t 57) (.t 58), none⟩,
    ⟨none, .store none (.t 75) (.t 67), none⟩,
    ⟨some 76, .iaddr none (.t 59) (.t 60), none⟩,
    ⟨none, .store none (.t 76) (.t 74), none⟩]))))))
  (.ops false [
   ⟨some 77, .bin .add (.t 20) (.c (.int .i64 1)), none⟩,
   ⟨some 20, .mov (.t 77), none⟩]))))
def Db : bC :=
 (.seq (.ops false [
  ⟨some 81, .bin .lss (.t 80) (.t 79), none⟩])
  (.seq (.cond (.t 81)
   (.skip)
   (.exit 2))
  (.seq (.block 3 (.seq (.ops false [
   ⟨some 82, .mov (.t 80), none⟩,
   ⟨some 12, .mov (.t 82), none⟩])
   (.seq (.ops false [
    ⟨some 83, .mov (.t 5), none⟩,
    ⟨some 84, .mov (.t 12), none⟩,
    ⟨some 85, .iaddr none (.t 83) (.t 84), none⟩,
    ⟨some 86, .load none (.t 85), none⟩,
    ⟨some 87, .call true 124 [(.t 86)], none⟩])
   (.ops false [
    ⟨some 88, .mov (.t 5), none⟩,
    ⟨some 89, .mov (.t 12), none⟩,
    ⟨some 90, .mov (.t 5), none⟩,
    ⟨some 91, .mov (.t 12), none⟩,
    ⟨some 92, .iaddr none (.t 90) (.t 91), none⟩,
    ⟨some 93, .load none (.t 92), none⟩,
    ⟨some 94, .call true 125 [(.t 93)], none⟩,
    ⟨some 95, .iaddr none (.t 88) (.t 89), none⟩,
    ⟨none, .store none (.t 95) (.t 94), none⟩]))))
  (.ops false [
   ⟨some 96, .bin .add (.t 80) (.c (.int .i64 1)), none⟩,
   ⟨some 80, .mov (.t 96), none⟩]))))
def Dc : bR := .mk 98
 (.seq (.ops false [
  ⟨some 2, .box (some 3) (.t 0) true, none⟩,
  ⟨some 4, .mov (.c (.vec none [])), none⟩])
  (.seq (.ops false [
   ⟨some 13, .faddr 0 (.t 2), none⟩,
   ⟨some 14, .ldI none (.t 13), none⟩,
   ⟨some 15, .len (.t 14), none⟩,
   ⟨some 16, .mkslV .nils (.t 15) (.t 15), none⟩,
   ⟨some 5, .mov (.t 16), none⟩])
  (.seq (.seq (.ops false [
   ⟨some 17, .faddr 1 (.t 2), none⟩,
   ⟨some 18, .ldI none (.t 17), none⟩,
   ⟨some 19, .len (.t 18), none⟩,
   ⟨some 20, .mov (.c (.int .i64 0)), none⟩])
   (.block 0 (.loop Da)))
  (.seq (.seq (.ops false [
   ⟨some 78, .mov (.t 5), none⟩,
   ⟨some 79, .len (.t 78), none⟩,
   ⟨some 80, .mov (.c (.int .i64 0)), none⟩])
   (.block 2 (.loop Db)))
  (.seq (.ops false [
   ⟨some 97, .mov (.t 5), none⟩,
   ⟨some 4, .mov (.t 97), none⟩])
  (.ret))))))
 [.t 4]
theorem Dd {a0 : api_Topo} {a1 : Int} {r : (List (List Int))} (h : nA a0 a1 = some r) : PCall Try.prog 115 [eapi_Topo a0, .int .i64 a1] (eL none (eL none (D.int .i64)) r) := by
 refine PCall.inW Dc ?_; refine am ?_; refine q2 ?_; refine nI ?_; obtain ⟨g0, hg0, h⟩ := aq h
 have hg0' : 0 ≤ (a0.Switches.length : Int) ∧ (a0.Switches.length : Int) ≤ 4294967296 ∧ g0 = List.replicate a0.Switches.length [] := by
  unfold eR at hg0
  split at hg0
  ·
   rename_i hc; cases hg0; exact ⟨hc.1, hc.2, by simp⟩
  ·
   cases hg0
 obtain ⟨hn0, hn1, hg0e⟩ := hg0'; have hgl : g0.length = a0.Switches.length := by rw [hg0e]; simp
 refine aH ⟨tab [(1, vi a1), (2, bn a0), (5, .loc 0 0 g0.length)], oG g0, 2 + g0.length⟩ ?_ ?_
 · refine q2 ?_; refine step (bE (xs := a0.Switches) (e := (D.int .u16)) rfl) ?_; refine step (v := .loc 0 0 a0.Switches.length) (σ' := ao (aj []) 0 (some (.var (List.replicate a0.Switches.length (.d .nils))))) (n' := 1) (Bl rfl rfl ⟨hn0, hn1⟩ (by simp) (by simp)) ?_; refine qq ?_; refine aL.nil' (bN.trans (Bv 2 (by show 1 ≤ 2; decide) (o := 0) (k := a0.Switches.length) (by simp [ao]) (by show 0 < 1; decide)) ?_); refine bN.fam id (fun _ _ => rfl) (fun x y _ _ e => e) (by omega) ⟨.d _, .d _, .le (id := 0) hgl.symm (by show 0 < _; omega), trivial⟩ (by intro p hp; simp at hp; subst hp; show 0 < 2; decide) ⟨⟨by show 0 < _; omega, _, rfl, .locs (by rw [hg0e]; rfl) rfl⟩, trivial⟩ (fun i l hl => ?_); have hi : i < a0.Switches.length := by have := (List.getElem?_eq_some_iff.1 hl).1; omega
   rw [hg0e, List.getElem?_replicate, if_pos hi] at hl; cases hl; have e1 : ¬ (2 + i = 0) := by omega
   have e2 : 2 ≤ 2 + i ∧ 2 + i < 2 + a0.Switches.length := by omega
   simp only [id, e1, e2, if_true, if_false, and_self, List.map_nil]
 clear hg0 hg0e hgl; refine aA ?_; refine aH ⟨tab [(1, vi a1), (2, bn a0), (5, .loc 0 0 g0.length), (18, du a0.Links), (19, vi (a0.Links.length : Int)), (20, vi 0)], oG g0, 2 + g0.length⟩ ?_ ?_
 · refine q2 ?_; refine step (bE (xs := a0.Links) (e := (dL eapi_Port)) rfl) ?_; refine qq ?_; exact aL.nil' (f6 ⟨.d _, .d _, .loc 0 _ _ (by omega), .d _, .d _, .d _, trivial⟩)
 obtain ⟨z1, hl, h⟩ := aq h; refine bx ?_; refine fJ (cA (a0.Links.length : Int)) (fun (i2 : Int) (g : List (List Int)) => ⟨tab [(1, vi a1), (2, bn a0), (5, .loc 0 0 g.length), (18, du a0.Links), (19, vi (a0.Links.length : Int)), (20, vi i2)], oG g, 2 + g.length⟩) 0 (fun (g : List (List Int)) => ⟨tab [(5, .loc 0 0 g.length)], oG g, 2 + g.length⟩) bD cB hl (by unfold bD; omega) ?_ ?_ ?_
 · rintro i2 g g9 hinv hgo h; have hc : decide (i2 < (a0.Links.length : Int)) = true := decide_eq_true hgo; refine aH ⟨tab [(1, vi a1), (2, bn a0), (5, .loc 0 0 g.length), (18, du a0.Links), (19, vi (a0.Links.length : Int)), (20, vi i2), (21, vb (decide (i2 < (a0.Links.length : Int))))], oG g, 2 + g.length⟩ ?_ ?_
   · refine qq ?_; exact aL.nil' (f6 ⟨.d _, .d _, .loc 0 _ _ (by omega), .d _, .d _, .d _, .d _, trivial⟩)
   refine cF 19 rfl fun hB3 => ?_; refine aA ?_; refine aV rfl hc ?_; refine ba ?_; refine gz ⟨tab [(1, vi a1), (2, bn a0), (5, .loc 0 0 g9.length), (18, du a0.Links), (19, vi (a0.Links.length : Int)), (20, vi i2)], oG g9, 2 + g9.length⟩ ?_ ?_
   · refine bx ?_; obtain ⟨x8, hx8, h⟩ := aq h; refine aH ⟨tab [(1, vi a1), (2, bn a0), (5, .loc 0 0 g.length), (6, vi i2), (7, .ptr 1 0 0), (18, du a0.Links), (19, vi (a0.Links.length : Int)), (20, vi i2)], k6 g [vh x8.a0.Sw, vh x8.a0.Pt, vh x8.a1.Sw, vh x8.a1.Pt], 2 + g.length⟩ ?_ ?_
     · refine qq ?_; refine step (bU (xs := a0.Links) (e := (dL eapi_Port)) hx8 rfl rfl) ?_; refine qq ?_; refine step (v := .ptr (2 + g.length) 0 0) (σ' := (ao (oG g) (2 + g.length) (some (.var [vh 0, vh 0, vh 0, vh 0])))) (n' := 2 + g.length + 1) rfl ?_; refine qq ?_; refine step (v := V.undef) (σ' := ao (ao (oG g) (2 + g.length) (some (.var [vh 0, vh 0, vh 0, vh 0]))) (2 + g.length) (some (.var [vh x8.a0.Sw, vh x8.a0.Pt, vh x8.a1.Sw, vh x8.a1.Pt]))) (n' := 2 + g.length + 1) ?_ ?_
       · have e1 : eO (ao (oG g) (2 + g.length) (some (.var [vh 0, vh 0, vh 0, vh 0]))) (some 4) (.ptr (2 + g.length) 0 0) (.d (dL eapi_Port x8)) = some (ao (ao (oG g) (2 + g.length) (some (.var [vh 0, vh 0, vh 0, vh 0]))) (2 + g.length) (some (.var [vh x8.a0.Sw, vh x8.a0.Pt, vh x8.a1.Sw, vh x8.a1.Pt]))) := by
          unfold eO
          simp only [bp]
          rfl
         show (eO _ (some 4) (.ptr (2 + g.length) 0 0) (.d (dL eapi_Port x8))).map _ = _; rw [e1]; rfl
       have f0 : ∀ id, id ≠ 2 + g.length → ao (ao (oG g) (2 + g.length) (some (.var [vh 0, vh 0, vh 0, vh 0]))) (2 + g.length) (some (.var [vh x8.a0.Sw, vh x8.a0.Pt, vh x8.a1.Sw, vh x8.a1.Pt])) id = oG g id := fun id hid => by rw [aN _ _ hid, aN _ _ hid]
       exact aL.nil' (C8 ((f0 0 (by omega)).trans rfl) (bp _ _ _) (.vars ⟨.d _, .d _, .d _, .d _, trivial⟩) (fun i l hl => (f0 _ (by have := (List.getElem?_eq_some_iff.1 hl).1; omega)).trans (jt hl)) rfl ⟨.d _, .d _, .loc 0 _ _ (by omega), .d _, .ptr 1 _ _ (by omega), .d _, .d _, .d _, trivial⟩)
     obtain ⟨r1, hr1, h⟩ := aq h
     have keep1 : ∀ {T : Nat → V} {n : Nat} {l : List (Nat × V)} {cs : List V}, BN id (2 + g.length) (.var cs) (.var cs) → TN id (2 + g.length) T l → bN 0 ⟨T, k6 g cs, n⟩ ⟨tab l, k6 g cs, 2 + g.length⟩ := fun hcs hT =>
      vR (by omega) hT (by intro p hp; simp at hp; rcases hp with rfl | rfl; (show 0 < 2; decide); (show 1 < 2; decide)) ⟨⟨by show 0 < _; omega, _, rfl, .locs rfl rfl⟩, ⟨by show 1 < _; omega, _, rfl, hcs⟩, trivial⟩
     have drop1 : ∀ {T : Nat → V} {n : Nat} {l : List (Nat × V)} {cs : List V}, TN id (2 + g.length) T l → bN 0 ⟨T, k6 g cs, n⟩ ⟨tab l, oG g, 2 + g.length⟩ := fun hT =>
      bN.fam id (fun _ _ => rfl) (fun x y _ _ e => e) (by omega) hT (by intro p hp; simp at hp; subst hp; show 0 < 2; decide) ⟨⟨by show 0 < _; omega, _, rfl, .locs rfl rfl⟩, trivial⟩ (fun i l hl => mw hl)
     refine aH ⟨tab [(1, vi a1), (2, bn a0), (5, .loc 0 0 g.length), (6, vi i2), (7, .ptr 1 0 0), (8, vi r1.1), (9, vb r1.2), (18, du a0.Links), (19, vi (a0.Links.length : Int)), (20, vi i2)], k6 g [vh x8.a0.Sw, vh x8.a0.Pt, vh x8.a1.Sw, vh x8.a1.Pt], 2 + g.length⟩ ?_ ?_
     · refine q4 ?_; refine bP (aM (aM bh.nil')) (oS hr1) ?_; refine q4 ?_; refine qq ?_; exact aL.nil' (keep1 (.vars ⟨.d _, .d _, .d _, .d _, trivial⟩) ⟨.d _, .d _, .loc 0 _ _ (by omega), .d _, .ptr 1 _ _ (by omega), .d _, .d _, .d _, .d _, .d _, trivial⟩)
     obtain ⟨r2, hr2, h⟩ := aq h; refine aH ⟨tab [(1, vi a1), (2, bn a0), (5, .loc 0 0 g.length), (6, vi i2), (8, vi r1.1), (9, vb r1.2), (10, vi r2.1), (11, vb r2.2), (18, du a0.Links), (19, vi (a0.Links.length : Int)), (20, vi i2)], oG g, 2 + g.length⟩ ?_ ?_
     · refine q4 ?_; refine bP (aM (aM bh.nil')) (oS hr2) ?_; refine q4 ?_; refine qq ?_; exact aL.nil' (drop1 ⟨.d _, .d _, .loc 0 _ _ (by omega), .d _, .d _, .d _, .d _, .d _, .d _, .d _, .d _, trivial⟩)
     clear keep1 drop1; refine aA ?_; refine aA ?_; have keepT : ∀ {T : Nat → V} {n : Nat}, (hT : TN id (2 + g.length) T [(1, vi a1), (2, bn a0), (5, .loc 0 0 g.length), (8, vi r1.1), (10, vi r2.1), (18, du a0.Links), (19, vi (a0.Links.length : Int)), (20, vi i2), (56, vb ((!r1.2) || ((!r2.2) || ((r1.1 == r2.1) || (i2 == a1)))))]) → aL Try.prog [] ⟨T, oG g, n⟩ (fun s' => bN 0 s' ⟨tab [(1, vi a1), (2, bn a0), (5, .loc 0 0 g.length), (8, vi r1.1), (10, vi r2.1), (18, du a0.Links), (19, vi (a0.Links.length : Int)), (20, vi i2), (56, vb ((!r1.2) || ((!r2.2) || ((r1.1 == r2.1) || (i2 == a1)))))], oG g, 2 + g.length⟩) := fun hT => aL.nil' (f6 hT); refine dG ⟨tab [(1, vi a1), (2, bn a0), (5, .loc 0 0 g.length), (8, vi r1.1), (10, vi r2.1), (18, du a0.Links), (19, vi (a0.Links.length : Int)), (20, vi i2), (56, vb ((!r1.2) || ((!r2.2) || ((r1.1 == r2.1) || (i2 == a1)))))], oG g, 2 + g.length⟩ ?_ ?_
     · refine q3 ?_; by_cases e1 : (!r1.2) = true
       · (iterate 2 refine qX (!r1.2) (by rw [e1]; decide) ?_); refine step (aZ rfl e1 rfl) ?_; refine qq ?_; (iterate 3 refine qX true (by decide) ?_); refine step (aZ rfl rfl rfl) ?_; refine qq ?_; (iterate 3 refine qX true (by decide) ?_); refine step (aZ rfl rfl rfl) ?_; exact keepT ⟨.d _, .d _, .loc 0 _ _ (by omega), .d _, .d _, .d _, .d _, .d _, .eq (by rw [e1]; rfl), trivial⟩
       · refine qG _ (bf e1) ?_; refine qq ?_; refine qG _ (bf e1) ?_; refine qq ?_; refine step (bm rfl e1 rfl) ?_; refine qq ?_; have e1' : (!r1.2) = false := Bool.eq_false_iff.2 e1; by_cases e2 : (!r2.2) = true
         · (iterate 3 refine qX (!r2.2) (by rw [e2]; decide) ?_); refine step (aZ rfl e2 rfl) ?_; refine qq ?_; (iterate 3 refine qX true (by decide) ?_); refine step (aZ rfl rfl rfl) ?_; exact keepT ⟨.d _, .d _, .loc 0 _ _ (by omega), .d _, .d _, .d _, .d _, .d _, .eq (by rw [e1', e2]; rfl), trivial⟩
         · have e2' : (!r2.2) = false := Bool.eq_false_iff.2 e2; refine qG _ e2' ?_; refine qq ?_; refine qG _ e2' ?_; refine qq ?_; refine qG _ e2' ?_; refine qq ?_; refine step (bm rfl e2 rfl) ?_; refine qq ?_; by_cases e3 : (r1.1 == r2.1) = true
           · (iterate 3 refine qX (r1.1 == r2.1) (by rw [e3]; decide) ?_); refine step (aZ rfl e3 rfl) ?_; exact keepT ⟨.d _, .d _, .loc 0 _ _ (by omega), .d _, .d _, .d _, .d _, .d _, .eq (by rw [e1', e2', e3]; rfl), trivial⟩
           · have e3' : (r1.1 == r2.1) = false := Bool.eq_false_iff.2 e3; refine qG _ e3' ?_; refine qq ?_; refine qG _ e3' ?_; refine qq ?_; refine qG _ e3' ?_; refine qq ?_; refine step (bm rfl e3 rfl) ?_; exact keepT ⟨.d _, .d _, .loc 0 _ _ (by omega), .d _, .d _, .d _, .d _, .d _, .eq (by rw [e1', e2', e3']; rfl), trivial⟩
     clear keepT; by_cases hcc : ((!r1.2) || ((!r2.2) || ((r1.1 == r2.1) || (i2 == a1)))) = true
     · replace h := aQ hcc h; cases h; refine aV rfl hcc ?_; refine dX (s0 := ⟨tab [(1, vi a1), (2, bn a0), (5, .loc 0 0 g.length), (18, du a0.Links), (19, vi (a0.Links.length : Int)), (20, vi i2)], oG g, 2 + g.length⟩) (f6 ⟨.d _, .d _, .loc 0 _ _ (by omega), .d _, .d _, .d _, trivial⟩) ?_; refine cf ?_; exact ⟨rfl, rfl⟩
     · replace h := aR hcc h
       have hne : r1.1 ≠ r2.1 := by
        intro e
        apply hcc
        have : (r1.1 == r2.1) = true := by simp [e]
        rw [this]; simp
       refine aU rfl hcc ?_; refine ba ?_; obtain ⟨la, hla, h⟩ := aq h; obtain ⟨la2, hla2, h⟩ := aq h; obtain ⟨lb, hlb, h⟩ := aq h; obtain ⟨lb2, hlb2, h⟩ := aq h; obtain ⟨g2, hg2, h⟩ := aq h; obtain ⟨p1, p2, p3⟩ := mA hla; obtain ⟨q1', q2', q3'⟩ := mA hlb; obtain ⟨hg2e, _⟩ := rP hg2; obtain ⟨hg9e, _⟩ := rP h; subst hg2e; have hjk : r1.1.toNat ≠ r2.1.toNat := by omega
       generalize hn : 2 + g.length = n; have hna : 2 + r1.1.toNat ≠ n := by omega
       have hnb : 2 + r2.1.toNat ≠ n := by omega
       have hab : 2 + r2.1.toNat ≠ 2 + r1.1.toNat := by omega
       obtain ⟨σ1, hσ1⟩ : ∃ σ1, σ1 = ao (ao (oG g) (2 + r1.1.toNat) none) n (some (.lst true none (la2.map (D.int .i64)))) := ⟨_, rfl⟩; obtain ⟨σ2, hσ2⟩ : ∃ σ2, σ2 = ao (ao σ1 (2 + r2.1.toNat) none) (n + 1) (some (.lst true none (lb2.map (D.int .i64)))) := ⟨_, rfl⟩; have z0 : oG g 0 = some (.var (cJ 2 g)) := rfl; have z1 : σ1 0 = some (.var (cJ 2 g)) := by rw [hσ1, aN _ _ (by omega), aN _ _ (by omega)]; rfl
       have z2 : σ2 0 = some (.var (cJ 2 g)) := by rw [hσ2, aN _ _ (by omega), aN _ _ (by omega)]; exact z1
       have zb : σ1 (2 + r2.1.toNat) = some (.lst true none (lb.map (D.int .i64))) := by rw [hσ1, aN _ _ hnb, aN _ _ hab]; exact jt q2'
       obtain ⟨σ3, hσ3⟩ : ∃ σ3, σ3 = ao σ2 0 (some (.var ((cJ 2 g).set r1.1.toNat (.loc n 0 la2.length)))) := ⟨_, rfl⟩; obtain ⟨σ4, hσ4⟩ : ∃ σ4, σ4 = ao σ3 0 (some (.var (((cJ 2 g).set r1.1.toNat (.loc n 0 la2.length)).set r2.1.toNat (.loc (n + 1) 0 lb2.length)))) := ⟨_, rfl⟩; refine oN ⟨tab [(1, vi a1), (2, bn a0), (5, .loc 0 0 g9.length), (18, du a0.Links), (19, vi (a0.Links.length : Int)), (20, vi i2)], oG g9, 2 + g9.length⟩ ?_ (And.intro rfl rfl); (iterate 6 refine bO (v := _) [] [] rfl rfl rfl ?_); refine bO (v := .ptr 0 r1.1.toNat 0) [0] [] (ka (m := g.length) rfl z0 rfl ⟨p1, by omega⟩ rfl) rfl rfl ?_; refine bO (v := .loc (2 + r1.1.toNat) 0 la.length) [0] [] (oT (g := g) rfl z0 (by rw [iK, p2]; rfl)) rfl rfl ?_; (iterate 2 refine bO (v := _) [] [] rfl rfl rfl ?_); refine bO (v := .loc n 0 la2.length) (σ' := σ1) (n' := n + 1) [2 + r1.1.toNat] [2 + r1.1.toNat] (by rw [hσ1]; exact vW rfl rfl (jt p2) hla2) rfl rfl ?_; (iterate 2 refine bO (v := _) [] [] rfl rfl rfl ?_); refine bO (v := .ptr 0 r2.1.toNat 0) [0] [] (ka (m := g.length) rfl z1 rfl ⟨q1', by omega⟩ rfl) rfl rfl ?_; refine bO (v := .loc (2 + r2.1.toNat) 0 lb.length) [0] [] (oT (g := g) rfl z1 (by rw [iK, q2']; rfl)) rfl rfl ?_; (iterate 2 refine bO (v := _) [] [] rfl rfl rfl ?_); refine bO (v := .loc (n + 1) 0 lb2.length) (σ' := σ2) (n' := n + 1 + 1) [2 + r2.1.toNat] [2 + r2.1.toNat] (by rw [hσ2]; exact vW rfl rfl zb hlb2) rfl rfl ?_; refine bO (v := .ptr 0 r1.1.toNat 0) [0] [] (ka (m := g.length) rfl z2 rfl ⟨p1, by omega⟩ rfl) rfl rfl ?_; refine bO (v := V.undef) (σ' := σ3) (n' := n + 1 + 1) [0] [0] (by rw [hσ3]; exact rO rfl rfl z2 (by rw [iL]; exact p3)) rfl rfl ?_; have z3 : σ3 0 = some (.var ((cJ 2 g).set r1.1.toNat (.loc n 0 la2.length))) := by rw [hσ3, bp]
       refine bO (v := .ptr 0 r2.1.toNat 0) [0] [] (ka (m := g.length) rfl z3 rfl ⟨q1', by omega⟩ rfl) rfl rfl ?_; refine bO (v := V.undef) (σ' := σ4) (n' := n + 1 + 1) [0] [0] (by rw [hσ4]; exact rO rfl rfl z3 (by rw [List.length_set, iL]; exact q3')) rfl rfl ?_; refine ce.nil' ⟨?_, ?_⟩
       · have b1 : ¬ (2 + r1.1.toNat = 0) := by omega
         have b2 : ¬ (n = 0) := by omega
         have b3 : ¬ (n ≤ 0) := by omega
         have b5 : 2 + r1.1.toNat < n + 1 := by omega
         simp [oL, rD, b1, b2, b3, b5]
       · subst hg9e; have hlen : ((g.set r1.1.toNat la2).set r2.1.toNat lb2).length = g.length := by simp
         refine C9 p3 q3' hjk hn.symm (by rw [hσ4, bp]) ?_ ?_ (fun i l hi1 hi2 hl => ?_) ⟨.d _, .d _, .l0 hlen.symm (by show ite _ _ _ = 0; rw [if_neg (by omega), if_neg (by omega)]) (by omega), .d _, .d _, .d _, trivial⟩
         · rw [hσ4, hσ3, aN _ _ (by omega), aN _ _ (by omega), hσ2, aN _ _ (by omega), aN _ _ (Ne.symm hnb), hσ1, bp]
         · rw [hσ4, hσ3, aN _ _ (by omega), aN _ _ (by omega), hσ2, bp]
         · have hil := (List.getElem?_eq_some_iff.1 hl).1; rw [hσ4, hσ3, aN _ _ (by omega), aN _ _ (by omega), hσ2, aN _ _ (by omega), aN _ _ (by omega), hσ1, aN _ _ (by omega), aN _ _ (by omega)]; exact jt hl
   · refine dG ⟨tab [(1, vi a1), (2, bn a0), (5, .loc 0 0 g9.length), (18, du a0.Links), (19, vi (a0.Links.length : Int)), (20, vi (i2 + 1))], oG g9, 2 + g9.length⟩ ?_ ?_
     · refine step (cn (co hinv hgo hB3) rfl rfl) ?_; refine qq ?_; exact aL.nil' (f6 ⟨.d _, .d _, .loc 0 _ _ (by omega), .d _, .d _, .d _, trivial⟩)
     exact ⟨rfl, rfl⟩
 · rintro i2 g hinv hgo; have hc : ¬ (decide (i2 < (a0.Links.length : Int)) = true) := fun hq => hgo (of_decide_eq_true hq); refine aH ⟨tab [(5, .loc 0 0 g.length), (21, vb (decide (i2 < (a0.Links.length : Int))))], oG g, 2 + g.length⟩ ?_ ?_
   · refine qq ?_; exact aL.nil' (f6 ⟨.loc 0 _ _ (by omega), .d _, trivial⟩)
   refine aA ?_; refine aU rfl hc ?_; refine dX (s0 := ⟨tab [(5, .loc 0 0 g.length)], oG g, 2 + g.length⟩) (f6 ⟨.loc 0 _ _ (by omega), trivial⟩) ?_; refine cf ?_; exact ⟨rfl, rfl⟩
 refine aA ?_; refine aH ⟨tab [(5, .loc 0 0 z1.length), (79, vi (z1.length : Int)), (80, vi 0)], oG z1, 2 + z1.length⟩ ?_ ?_
 · refine q3 ?_; exact aL.nil' (f6 ⟨.loc 0 _ _ (by omega), .d _, .d _, trivial⟩)
 obtain ⟨z2, hl2, h⟩ := aq h; have hh := bJ h; subst hh; refine bx ?_; refine fJ (cA (z1.length : Int)) (fun (i2 : Int) (g : List (List Int)) => ⟨tab [(5, .loc 0 0 g.length), (79, vi (z1.length : Int)), (80, vi i2)], oG g, 2 + g.length⟩) 2 (fun (g : List (List Int)) => ⟨tab [(5, .loc 0 0 g.length)], oG g, 2 + g.length⟩) bD cB hl2 (by unfold bD; omega) ?_ ?_ ?_
 · rintro i2 g g9 hinv hgo h; have hc : decide (i2 < (z1.length : Int)) = true := decide_eq_true hgo; refine aH ⟨tab [(5, .loc 0 0 g.length), (79, vi (z1.length : Int)), (80, vi i2), (81, vb (decide (i2 < (z1.length : Int))))], oG g, 2 + g.length⟩ ?_ ?_
   · refine qq ?_; exact aL.nil' (f6 ⟨.loc 0 _ _ (by omega), .d _, .d _, .d _, trivial⟩)
   refine cF 79 rfl fun hB3 => ?_; refine aA ?_; refine aV rfl hc ?_; refine ba ?_; refine gz ⟨tab [(5, .loc 0 0 g9.length), (79, vi (z1.length : Int)), (80, vi i2)], oG g9, 2 + g9.length⟩ ?_ ?_
   · refine bx ?_; obtain ⟨l, hla, h⟩ := aq h; split at h
     · rename_i hll; obtain ⟨r8, hr8, h⟩ := aq h; obtain ⟨p1, p2, p3⟩ := mA hla; obtain ⟨hg9e, _⟩ := rP h; refine aH ⟨tab [(5, .loc 0 0 g.length), (12, vi i2), (79, vi (z1.length : Int)), (80, vi i2)], oG g, 2 + g.length⟩ ?_ ?_
       · refine q2 ?_; exact aL.nil' (f6 ⟨.loc 0 _ _ (by omega), .d _, .d _, .d _, trivial⟩)
       have hset1 : (g.set i2.toNat (cX l)).length = g.length := by simp
       have hs5 : (cX l).length = l.length := (j5 l).length_eq; have gs : (g.set i2.toNat (cX l))[i2.toNat]? = some (cX l) := by rw [List.getElem?_set_self p3]
       refine aH ⟨tab [(5, .loc 0 0 (g.set i2.toNat (cX l)).length), (12, vi i2), (79, vi (z1.length : Int)), (80, vi i2)], oG (g.set i2.toNat (cX l)), 2 + (g.set i2.toNat (cX l)).length⟩ ?_ ?_
       · refine q2 ?_; refine step (ka (m := g.length) rfl (show oG g 0 = some (.var (cJ 2 g)) from rfl) rfl ⟨p1, by omega⟩ rfl) ?_; refine step (oT (g := g) rfl (show oG g 0 = some (.var (cJ 2 g)) from rfl) (by rw [iK, p2]; rfl)) ?_; refine lH (v := .d (.tup [])) (σ' := ao (ao (oG g) (2 + i2.toNat) none) (2 + i2.toNat) (some (.lst true none ((cX l).map (D.int .i64))))) (n' := 2 + g.length) (m6 [2 + i2.toNat] (BD (by omega)) (show 1 ≤ 1 by decide) (by simp) (by intro q hq; simp at hq; omega) (nn (show 0 < 1 by decide) np) (dh.c (.loc 0 _ _ (by show 0 < 1; decide)) dh.nil0) (SN.c (by show 0 < 1; decide) (jt p2) (.lst _ _ _) SN.nil0)) (Nat.le_refl _) ?_; refine aL.nil' (vX (m := 2 + i2.toNat) p3 (.inl rfl) ?_ (bp _ _ _) (fun i l' hi hl' => ?_) ⟨.l0 hset1.symm (by show ite _ _ _ = 0; rw [if_neg (by omega)]) (by omega), .d _, .d _, .d _, trivial⟩)
         · rw [aN _ _ (by omega), aN _ _ (by omega)]; show some (a8.var (cJ 2 g)) = _; congr 2; apply List.ext_getElem?; intro i; rw [List.getElem?_set, iL]; by_cases e : i2.toNat = i
           · subst e; rw [if_pos rfl, if_pos p3, iK, p2, hs5]; rfl
           · rw [if_neg e]
         · rw [aN _ _ (by omega), aN _ _ (by omega)]; exact jt hl'
       have p3' : i2.toNat < (g.set i2.toNat (cX l)).length := by rw [hset1]; exact p3
       have hss : (g.set i2.toNat (cX l)).set i2.toNat r8 = g9 := by rw [hg9e, List.set_set]
       have hset2 : g9.length = (g.set i2.toNat (cX l)).length := by rw [← hss]; simp
       clear hg9e h hla p2 hset1; generalize g.set i2.toNat (cX l) = g3 at *; refine dG ⟨tab [(5, .loc 0 0 g9.length), (79, vi (z1.length : Int)), (80, vi i2)], oG g9, 2 + g9.length⟩ ?_ (And.intro rfl rfl); refine q4 ?_; refine step (ka (m := g3.length) rfl (show oG g3 0 = some (.var (cJ 2 g3)) from rfl) rfl ⟨p1, by omega⟩ rfl) ?_; refine step (oT (g := g3) rfl (show oG g3 0 = some (.var (cJ 2 g3)) from rfl) (by rw [iK, gs]; rfl)) ?_; refine lH (v := .loc (2 + i2.toNat) 0 r8.length) (σ' := ao (ao (oG g3) (2 + i2.toNat) none) (2 + i2.toNat) (some (.lst true none (r8.map (D.int .i64))))) (n' := 2 + g3.length) (m6 [2 + i2.toNat] (C7 hr8) (show 1 ≤ 1 by decide) (by simp) (by intro q hq; simp at hq; omega) (nn (show 0 < 1 by decide) np) (dh.c (.loc 0 _ _ (by show 0 < 1; decide)) dh.nil0) (SN.c (by show 0 < 1; decide) (jt gs) (.lst _ _ _) SN.nil0)) (Nat.le_refl _) ?_; have y0 : ao (ao (oG g3) (2 + i2.toNat) none) (2 + i2.toNat) (some (.lst true none (r8.map (D.int .i64)))) 0 = some (.var (cJ 2 g3)) := by rw [aN _ _ (by omega), aN _ _ (by omega)]; rfl
       refine step (ka (m := g3.length) rfl y0 rfl ⟨p1, by omega⟩ rfl) ?_; refine step (rO rfl rfl y0 (by rw [iL]; exact p3')) ?_; subst hss; refine aL.nil' (vX (m := 2 + i2.toNat) p3' (.inl rfl) (bp _ _ _) ?_ (fun i l' hi hl' => ?_) ⟨.l0 hset2.symm (by show ite _ _ _ = 0; rw [if_neg (by omega)]) (by omega), .d _, .d _, trivial⟩)
       · rw [aN _ _ (by omega), bp]
       · rw [aN _ _ (by omega), aN _ _ (by omega), aN _ _ (by omega)]; exact jt hl'
     · cases h
   · refine dG ⟨tab [(5, .loc 0 0 g9.length), (79, vi (z1.length : Int)), (80, vi (i2 + 1))], oG g9, 2 + g9.length⟩ ?_ ?_
     · refine step (cn (co hinv hgo hB3) rfl rfl) ?_; refine qq ?_; exact aL.nil' (f6 ⟨.loc 0 _ _ (by omega), .d _, .d _, trivial⟩)
     exact And.intro rfl rfl
 · rintro i2 g hinv hgo; have hc : ¬ (decide (i2 < (z1.length : Int)) = true) := fun hq => hgo (of_decide_eq_true hq); refine aH ⟨tab [(5, .loc 0 0 g.length), (81, vb (decide (i2 < (z1.length : Int))))], oG g, 2 + g.length⟩ ?_ ?_
   · refine qq ?_; exact aL.nil' (f6 ⟨.loc 0 _ _ (by omega), .d _, trivial⟩)
   refine aA ?_; refine aU rfl hc ?_; refine dX (s0 := ⟨tab [(5, .loc 0 0 g.length)], oG g, 2 + g.length⟩) (f6 ⟨.loc 0 _ _ (by omega), trivial⟩) ?_; refine cf ?_; exact And.intro rfl rfl
 refine aH ⟨tab [(4, .loc 0 0 z2.length)], oG z2, 2 + z2.length⟩ ?_ ?_
 · refine q2 ?_; exact aL.nil' (f6 ⟨.loc 0 _ _ (by omega), trivial⟩)
 refine aX ?_; refine bI (.inr rfl) (aK (v := .loc 0 0 z2.length) rfl rfl) ?_; refine Bk (show oG z2 0 = some (.var (cJ 2 z2)) from rfl) (by rw [iL]) Bw ?_ (by trivial); rw [List.all_eq_true]; intro d hd; obtain ⟨l, _, rfl⟩ := List.mem_map.1 hd; rfl
theorem rQ {a0 : (List (List Int))} {a1 : Int} {r : Bool} (h : iY a0 a1 = some r) : PCall Try.prog 116 [eL none (eL none (D.int .i64)) a0, .int .i64 a1] (.bool r) := by
 refine PCall.inW BV ?_; refine am ?_; refine qq ?_; refine nI ?_; refine aH ⟨tab [(4, vb ((decide (a1 ≥ 0)) && (decide (a1 < (a0.length : Int)))))], aj [], 0⟩ ?_ ?_
 · refine q3 ?_; by_cases hg1 : decide (a1 ≥ 0) = true
   · refine gq hg1 ?_; refine gq hg1 ?_; refine qG _ hg1 ?_; refine step (bE (xs := a0) (e := (eL none (D.int .i64))) rfl) ?_; refine gq hg1 ?_; refine step (aZ rfl hg1 rfl) ?_; refine qq ?_; exact aL.nil' (nm [] ⟨.eq (by first | (simp [hg1]; done) | (simp_all; done) | grind), trivial⟩ trivial)
   · (iterate 4 refine gX hg1 ?_); refine step (bm rfl hg1 rfl) ?_; refine qq ?_; exact aL.nil' (nm [] ⟨.eq (by first | (simp [hg1]; done) | (simp_all; done) | grind), trivial⟩ trivial)
 cases sj h; refine aX ?_; exact bI (.inr rfl) (aK rfl rfl) (RV.d trivial)
@[reducible] def fS (g : List D) (d q : List Int) : aE := aj [(0, .lst true none (List.map (D.int .i64) d)), (1, .lst false none (g ++ List.map (D.int .i64) q))]
theorem De {T : Nat → V} {n : Nat} {x y : AX} {g : List D} {d q : List Int} {i : Int} {k : Int} (hx : az T x = .loc 1 g.length q.length) (hy : az T y = vi i) (h : aW q i = some k) : aC (.iaddr none x y) (az T) (fS g d q) n = some (.ptr 1 (g.length + i.toNat) 0, fS g d q, n) := by
 obtain ⟨h1, _, h3⟩ := mA h; have hk : cu (fS g d q) (.loc 1 g.length q.length) = some none := rfl; simp only [aC, hx, hy, hk]; rw [if_pos ⟨trivial, h1, by omega⟩]
theorem Df {T : Nat → V} {n : Nat} {x : AX} {g : List D} {d q : List Int} {i : Int} {k : Int} (hx : az T x = .ptr 1 (g.length + i.toNat) 0) (h : aW q i = some k) : aC (.load none x) (az T) (fS g d q) n = some (vi k, fS g d q, n) := by
 obtain ⟨h1, h2, h3⟩ := mA h
 have e : (g ++ List.map (D.int .i64) q)[g.length + i.toNat]? = some (.int .i64 k) := by
  rw [List.getElem?_append_right (by omega), Nat.add_sub_cancel_left, List.getElem?_map, h2]; rfl
 have e2 : cO (fS g d q) none (.ptr 1 (g.length + i.toNat) 0) = some (vi k) := by
  show (match (g ++ List.map (D.int .i64) q)[g.length + i.toNat]? with | some d => (fj none d 0 none).map V.d | none => none) = _
  rw [e]; rfl
 simp [aC, hx, e2]
theorem Dg {T : Nat → V} {n : Nat} {x : AX} {g : List D} {d q q2 : List Int} (hx : az T x = .loc 1 g.length q.length) (h : dY q 1 (q.length : Int) = some q2) : aC (.slc none x (some (.c (.int .i64 1))) none) (az T) (fS g d q) n = some (.loc 1 (g.length + 1) q2.length, fS g d q, n) := by
 unfold dY at h; split at h
 · rename_i hc; cases h; have hk : cu (fS g d q) (.loc 1 g.length q.length) = some none := rfl
   have hb : eX q.length ((some (AX.c (.int .i64 1))).map (az T)) (Option.map (az T) none) = some (1, q.length) := by
    have h1 : (1 : Int) ≤ q.length := by omega
    simp [eX, az, gH, h1]
   simp only [aC, hx, hk, hb, if_true]; have : List.length (List.take ((q.length : Int).toNat - Int.toNat 1) (List.drop (Int.toNat 1) q)) = q.length - 1 := by simp
   rw [this]
 · cases h
theorem Dh {q q2 : List Int} (h : dY q 1 (q.length : Int) = some q2) : ∃ x, q = x :: q2 := by
 unfold dY at h; split at h
 · rename_i hc; cases h; cases q with
   | nil => simp at hc; | cons x q => exact ⟨x, by simp⟩
 · cases h
def Di : bC :=
 (.seq (.ops false [
  ⟨some 17, .bin .lss (.t 16) (.t 15), none⟩])
  (.seq (.cond (.t 17)
   (.skip)
   (.exit 0))
  (.seq (.block 1 (.seq (.ops false [
   ⟨some 18, .mov (.t 16), none⟩,
   ⟨some 6, .mov (.t 18), none⟩])
   (.ops false [
    ⟨some 19, .mov (.t 5), none⟩,
    ⟨some 20, .mov (.t 6), none⟩,
    ⟨some 21, .iaddr none (.t 19) (.t 20), none⟩,
    ⟨none, .store none (.t 21) (.c (.int .i64 (-1))), none⟩])))
  (.ops false [
   ⟨some 22, .bin .add (.t 16) (.c (.int .i64 1)), none⟩,
   ⟨some 16, .mov (.t 22), none⟩]))))
def Dj : bC :=
 (.seq (.ops false [
  ⟨some 47, .bin .lss (.t 46) (.t 45), none⟩])
  (.seq (.cond (.t 47)
   (.skip)
   (.exit 4))
  (.seq (.block 5 (.seq (.ops false [
   ⟨some 48, .iaddr none (.t 44) (.t 46), none⟩,
   ⟨some 49, .load none (.t 48), none⟩,
   ⟨some 10, .mov (.t 49), none⟩])
   (.seq (.ops false [
    ⟨some 50, .mov (.t 5), none⟩,
    ⟨some 51, .mov (.t 10), none⟩,
    ⟨some 52, .iaddr none (.t 50) (.t 51), none⟩,
    ⟨some 53, .load none (.t 52), none⟩,
    ⟨some 54, .bin .lss (.t 53) (.c (.int .i64 0)), none⟩])
   (.cond (.t 54)
   (.seq (.ops false [
    ⟨some 55, .mov (.t 5), none⟩,
    ⟨some 56, .mov (.t 10), none⟩,
    ⟨some 57, .mov (.t 5), none⟩,
    ⟨some 58, .mov (.t 8), none⟩,
    ⟨some 59, .iaddr none (.t 57) (.t 58), none⟩,
    ⟨some 60, .load none (.t 59), none⟩,
    ⟨some 61, .bin .add (.t 60) (.c (.int .i64 1)), none⟩,
    ⟨some 62, .iaddr none (.t 55) (.t 56), none⟩,
    ⟨none, .store none (.t 62) (.t 61), none⟩])
    (.ops false [
     ⟨some 63, .mov (.t 7), none⟩,
     ⟨some 64, .mov (.t 10), none⟩,
     ⟨some 65, .bsliceI none [(.t 64)], none⟩,
     ⟨some 66, .append none (.t 63) (.t 65) false, none⟩,
     ⟨some 7, .mov (.t 66), none⟩]))
   (.skip)))))
  (.ops false [
   ⟨some 67, .bin .add (.t 46) (.c (.int .i64 1)), none⟩,
   ⟨some 46, .mov (.t 67), none⟩]))))
def Dk : bC :=
 (.seq (.seq (.ops false [
  ⟨some 33, .mov (.t 7), none⟩,
  ⟨some 34, .len (.t 33), none⟩,
  ⟨some 35, .bin .gtr (.t 34) (.c (.int .i64 0)), none⟩])
  (.cond (.t 35)
  (.skip)
  (.exit 2)))
  (.seq (.block 3 (.seq (.ops false [
   ⟨some 38, .mov (.t 7), none⟩,
   ⟨some 39, .iaddr none (.t 38) (.c (.int .i64 0)), none⟩,
   ⟨some 40, .load none (.t 39), none⟩,
   ⟨some 8, .mov (.t 40), none⟩])
   (.seq (.ops false [
    ⟨some 41, .mov (.t 0), none⟩,
    ⟨some 42, .mov (.t 8), none⟩,
    ⟨some 43, .iaddr none (.t 41) (.t 42), none⟩,
    ⟨some 44, .load none (.t 43), none⟩,
    ⟨some 45, .len (.t 44), none⟩,
    ⟨some 46, .mov (.c (.int .i64 0)), none⟩])
   (.block 4 (.loop Dj)))))
  (.ops false [
   ⟨some 36, .mov (.t 7), none⟩,
   ⟨some 37, .slc none (.t 36) (some (.c (.int .i64 1))) none, none⟩,
   ⟨some 7, .mov (.t 37), none⟩])))
def Dl : bR := .mk 69
 (.seq (.ops false [
  ⟨some 4, .mov (.c (.vec none [])), none⟩])
  (.seq (.ops false [
   ⟨some 11, .mov (.t 0), none⟩,
   ⟨some 12, .len (.t 11), none⟩,
   ⟨some 13, .mkslice none (.int .i64 0) (.t 12) (.t 12), none⟩,
   ⟨some 5, .mov (.t 13), none⟩])
  (.seq (.seq (.ops false [
   ⟨some 14, .mov (.t 5), none⟩,
   ⟨some 15, .len (.t 14), none⟩,
   ⟨some 16, .mov (.c (.int .i64 0)), none⟩])
   (.block 0 (.loop Di)))
  (.seq (.seq (.ops false [
   ⟨some 23, .mov (.t 0), none⟩,
   ⟨some 24, .mov (.t 1), none⟩,
   ⟨some 25, .call false 116 [(.t 23), (.t 24)], none⟩,
   ⟨some 26, .un .not (.t 25), none⟩])
   (.cond (.t 26)
   (.seq (.ops false [
    ⟨some 27, .mov (.t 5), none⟩,
    ⟨some 4, .mov (.t 27), none⟩])
    (.ret))
   (.skip)))
  (.seq (.ops false [
   ⟨some 28, .mov (.t 5), none⟩,
   ⟨some 29, .mov (.t 1), none⟩,
   ⟨some 30, .iaddr none (.t 28) (.t 29), none⟩,
   ⟨none, .store none (.t 30) (.c (.int .i64 0)), none⟩])
  (.seq (.seq (.ops false [
   ⟨some 31, .mov (.t 1), none⟩,
   ⟨some 32, .bslice none [(.t 31)] false, none⟩,
   ⟨some 7, .mov (.t 32), none⟩])
   (.block 2 (.loop Dk)))
  (.seq (.ops false [
   ⟨some 68, .mov (.t 5), none⟩,
   ⟨some 4, .mov (.t 68), none⟩])
  (.ret))))))))
 [.t 4]
theorem Dm {a0 : (List (List Int))} {a1 : Int} {r : (List Int)} (h : nC a0 a1 = some r) : PCall Try.prog 117 [eL none (eL none (D.int .i64)) a0, .int .i64 a1] (eL none (D.int .i64) r) := by
 refine PCall.inW Dl ?_; refine am ?_; refine qq ?_; refine nI ?_; obtain ⟨l5, hl5, h⟩ := aq h; refine aH ⟨tab [(0, .d (eL none (eL none (D.int .i64)) a0)), (1, vi a1), (5, .loc 0 0 l5.length)], aj (eN l5), 1⟩ ?_ ?_
 · refine qq ?_; refine step (bE (xs := a0) (e := (eL none (D.int .i64))) rfl) ?_; refine step (yI (e := (D.int .i64)) (z := 0) hl5 rfl rfl (tJ hl5)) ?_; refine qq ?_; exact nR [0]
 refine aA ?_; refine am ?_; refine q3 ?_; refine nT [(0, .d (eL none (eL none (D.int .i64)) a0)), (1, vi a1), (5, .loc 0 0 l5.length), (15, vi (l5.length : Int)), (16, vi 0)] ?_; obtain ⟨z15, hl, h⟩ := aq h; refine bx ?_; refine fJ (cA (l5.length : Int)) (fun (i7 : Int) (qq : (List Int)) => ⟨tab [(0, .d (eL none (eL none (D.int .i64)) a0)), (1, vi a1), (5, .loc 0 0 qq.length), (15, vi (l5.length : Int)), (16, vi i7)], aj (eN qq), 1⟩) 0 (fun (qq : (List Int)) => ⟨tab [(0, .d (eL none (eL none (D.int .i64)) a0)), (1, vi a1), (5, .loc 0 0 qq.length)], aj (eN qq), 1⟩) bD cB hl (by unfold bD; omega) ?_ ?_ ?_
 · rintro i7 l6 xr12 hinv10 hgo9 h; have hc11 := dy hgo9; refine am ?_; refine qq ?_; refine nI ?_; refine cF 15 rfl fun hB8 => ?_; refine aA ?_; refine aV rfl hc11 ?_; refine ba ?_; refine aA ?_; refine bx ?_; refine am ?_; refine q2 ?_; refine nI ?_; obtain ⟨x13, hx13, h⟩ := aq h; obtain ⟨l14, hl14, h⟩ := aq h; refine dG ⟨tab [(0, .d (eL none (eL none (D.int .i64)) a0)), (1, vi a1), (5, .loc 0 0 l14.length), (15, vi (l5.length : Int)), (16, vi i7)], aj (eN l14), 1⟩ ?_ ?_
   · refine q2 ?_; refine step (iA (xs := l6) (e := (D.int .i64)) hx13 rfl rfl rfl rfl) ?_; refine step (ni (e := (D.int .i64)) (v' := (-1)) hl14 rfl rfl rfl rfl rfl) ?_; exact aL.nil' (nm [0] ⟨.d _, .d _, .le (id := 0) (nf hl14).symm (show 0 < 1 by decide), .d _, .d _, trivial⟩ ⟨⟨show 0 < 1 by decide, _, rfl, .lst _ _ _⟩, trivial⟩)
   cases sj h; refine b7 (And.intro rfl rfl) ?_; refine step (cn (co hinv10 hgo9 hB8) rfl rfl) ?_; refine qq ?_; exact nR [0]
 · rintro i7 l6 hinv10 hgo9; have hc11 := dn hgo9; refine am ?_; refine qq ?_; refine nI ?_; refine aA ?_; refine aU rfl hc11 ?_; refine ca [(0, .d (eL none (eL none (D.int .i64)) a0)), (1, vi a1), (5, .loc 0 0 l6.length)] ?_; refine cf ?_; exact ⟨rfl, rfl⟩
 refine aA ?_; obtain ⟨r2, hr2, h⟩ := aq h; refine aA ?_; refine dG ⟨tab [(0, .d (eL none (eL none (D.int .i64)) a0)), (1, vi a1), (5, .loc 0 0 z15.length), (26, vb (!r2))], aj (eN z15), 1⟩ ?_ ?_
 · refine q2 ?_; refine bP (aM (aM bh.nil')) (rQ hr2) ?_; refine qq ?_; exact nR [0]
 by_cases hc : (!r2) = true
 · replace h := aQ hc h; refine aV rfl hc ?_; refine aH ⟨tab [(4, .loc 0 0 z15.length)], aj (eN z15), 1⟩ ?_ ?_
   · refine q2 ?_; exact nR [0]
   cases sj h; refine aX ?_; exact bI (.inr rfl) (aK rfl rfl) (RV.loc rfl (by simp) trivial)
 replace h := aR hc h; refine aU rfl hc ?_; refine ba ?_; obtain ⟨x16, hx16, h⟩ := aq h; obtain ⟨l17, hl17, h⟩ := aq h; refine aH ⟨tab [(0, .d (eL none (eL none (D.int .i64)) a0)), (1, vi a1), (5, .loc 0 0 l17.length)], aj (eN l17), 1⟩ ?_ ?_
 · refine q2 ?_; refine step (iA (xs := z15) (e := (D.int .i64)) hx16 rfl rfl rfl rfl) ?_; refine step (ni (e := (D.int .i64)) (v' := 0) hl17 rfl rfl rfl rfl rfl) ?_; exact aL.nil' (nm [0] ⟨.d _, .d _, .le (id := 0) (nf hl17).symm (show 0 < 1 by decide), trivial⟩ ⟨⟨show 0 < 1 by decide, _, rfl, .lst _ _ _⟩, trivial⟩)
 refine aA ?_; refine aH ⟨tab [(0, .d (eL none (eL none (D.int .i64)) a0)), (5, .loc 0 0 l17.length), (7, .loc 1 0 1)], fS [] l17 [a1], 2⟩ ?_ ?_
 · refine q3 ?_; exact nR [0, 1]
 obtain ⟨⟨z, zq⟩, hl2, h⟩ := aq h; cases sj h; refine bx ?_; refine Bq (γ := List D) (fun (g : List D) (s : List Int × List Int) => ⟨tab [(0, .d (eL none (eL none (D.int .i64)) a0)), (5, .loc 0 0 s.1.length), (7, .loc 1 g.length s.2.length)], fS g s.1 s.2, 2⟩) 2 (fun (g : List D) (s : List Int × List Int) => ⟨tab [(5, .loc 0 0 s.1.length)], aj (eN s.1), 1⟩) (g := []) hl2 ?_ ?_
 · rintro g ⟨d, q⟩ x h; refine aA ?_; refine aA ?_; refine dG ⟨tab [(0, .d (eL none (eL none (D.int .i64)) a0)), (5, .loc 0 0 d.length), (7, .loc 1 g.length q.length), (35, vb (decide ((q.length : Int) > 0)))], fS g d q, 2⟩ ?_ ?_
   · refine q3 ?_; exact nR [0, 1]
   by_cases hc : decide ((q.length : Int) > 0) = true
   · replace h := aQ hc h; refine aV rfl hc ?_; refine ba ?_; obtain ⟨xh, hxh, h⟩ := aq h; obtain ⟨l, hll, h⟩ := aq h; obtain ⟨⟨d2, q2⟩, hl3, h⟩ := aq h; obtain ⟨q3, hq3, h⟩ := aq h; cases sj h; refine aA ?_; refine bx ?_; refine aH ⟨tab [(0, .d (eL none (eL none (D.int .i64)) a0)), (5, .loc 0 0 d.length), (7, .loc 1 g.length q.length), (8, vi xh)], fS g d q, 2⟩ ?_ ?_
     · refine qq ?_; refine step (De rfl rfl hxh) ?_; refine step (Df rfl hxh) ?_; refine qq ?_; exact nR [0, 1]
     refine aH ⟨tab [(0, .d (eL none (eL none (D.int .i64)) a0)), (5, .loc 0 0 d.length), (7, .loc 1 g.length q.length), (8, vi xh), (44, cG l), (45, vi (l.length : Int)), (46, vi 0)], fS g d q, 2⟩ ?_ ?_
     · (iterate 2 refine q1 _ ?_); refine step (bU (xs := a0) (e := (eL none (D.int .i64))) hll rfl rfl) ?_; refine q1 _ ?_; refine step (bE (xs := l) (e := (D.int .i64)) rfl) ?_; refine q1 _ ?_; exact nR [0, 1]
     refine bx ?_; refine Bs (γ := List D) (cA (l.length : Int)) (fun (g : List D) (i : Int) (s : List Int × List Int) => ⟨tab [(0, .d (eL none (eL none (D.int .i64)) a0)), (5, .loc 0 0 s.1.length), (7, .loc 1 g.length s.2.length), (8, vi xh), (44, cG l), (45, vi (l.length : Int)), (46, vi i)], fS g s.1 s.2, 2⟩) 4 (fun (g : List D) (s : List Int × List Int) => ⟨tab [(0, .d (eL none (eL none (D.int .i64)) a0)), (5, .loc 0 0 s.1.length), (7, .loc 1 g.length s.2.length)], fS g s.1 s.2, 2⟩) bD cB (g := g) hl3 (by unfold bD; omega) ?_ ?_ ?_
     · rintro g i ⟨d, q⟩ ⟨d9, q9⟩ hinv hgo h; have hci : decide (i < (l.length : Int)) = true := decide_eq_true hgo; refine aH ⟨tab [(0, .d (eL none (eL none (D.int .i64)) a0)), (5, .loc 0 0 d.length), (7, .loc 1 g.length q.length), (8, vi xh), (44, cG l), (45, vi (l.length : Int)), (46, vi i), (47, vb (decide (i < (l.length : Int))))], fS g d q, 2⟩ ?_ ?_
       · refine qq ?_; exact nR [0, 1]
       refine cF 45 rfl fun hB => ?_; refine aA ?_; refine aV rfl hci ?_; refine ba ?_; obtain ⟨k, hk, h⟩ := aq h; obtain ⟨dk, hdk, h⟩ := aq h
       have tailR : ∀ (g2 : List D), bw Try.prog 69 0 (.ops false [oo 67 (.bin .add (.t 46) (ci 1)), oo 46 (.mov (.t 67))]) (fun e s' => e = .normal ∧ ∃ g3 : List D, s' = (⟨tab [(0, .d (eL none (eL none (D.int .i64)) a0)), (5, .loc 0 0 d9.length), (7, .loc 1 g3.length q9.length), (8, vi xh), (44, cG l), (45, vi (l.length : Int)), (46, vi (i + 1))], fS g3 d9 q9, 2⟩ : S)) ⟨tab [(0, .d (eL none (eL none (D.int .i64)) a0)), (5, .loc 0 0 d9.length), (7, .loc 1 g2.length q9.length), (8, vi xh), (44, cG l), (45, vi (l.length : Int)), (46, vi i)], fS g2 d9 q9, 2⟩ := by
        intro g2
        refine dG ⟨tab [(0, .d (eL none (eL none (D.int .i64)) a0)), (5, .loc 0 0 d9.length), (7, .loc 1 g2.length q9.length), (8, vi xh), (44, cG l), (45, vi (l.length : Int)), (46, vi (i + 1))], fS g2 d9 q9, 2⟩ ?_ ⟨rfl, g2, rfl⟩
        refine step (cn (co hinv hgo hB) rfl rfl) ?_
        refine qq ?_
        exact nR [0, 1]
       refine aA ?_; refine bx ?_; refine aH ⟨tab [(0, .d (eL none (eL none (D.int .i64)) a0)), (5, .loc 0 0 d.length), (7, .loc 1 g.length q.length), (8, vi xh), (10, vi k), (44, cG l), (45, vi (l.length : Int)), (46, vi i)], fS g d q, 2⟩ ?_ ?_
       · refine step (bU (xs := l) (e := (D.int .i64)) hk rfl rfl) ?_; (iterate 2 refine q1 _ ?_); exact nR [0, 1]
       refine aH ⟨tab [(0, .d (eL none (eL none (D.int .i64)) a0)), (5, .loc 0 0 d.length), (7, .loc 1 g.length q.length), (8, vi xh), (10, vi k), (44, cG l), (45, vi (l.length : Int)), (46, vi i), (54, vb (decide (dk < 0)))], fS g d q, 2⟩ ?_ ?_
       · (iterate 2 refine q1 _ ?_); refine step (iA (xs := d) (e := (D.int .i64)) hdk rfl rfl rfl rfl) ?_; refine step (iV (xs := d) (e := (D.int .i64)) hdk rfl rfl rfl) ?_; refine q1 _ ?_; exact nR [0, 1]
       by_cases hck : decide (dk < 0) = true
       · replace h := aQ hck h; obtain ⟨dx, hdx, h⟩ := aq h; obtain ⟨d3, hd3, h⟩ := aq h; obtain ⟨q4, hq4, h⟩ := aq h; obtain ⟨rfl, rfl⟩ := Prod.mk.inj (bJ h); refine aV rfl hck ?_; have hkd : aW d k = some dk := hdk; refine aH ⟨tab [(0, .d (eL none (eL none (D.int .i64)) a0)), (5, .loc 0 0 d3.length), (7, .loc 1 g.length q.length), (8, vi xh), (10, vi k), (44, cG l), (45, vi (l.length : Int)), (46, vi i)], fS g d3 q, 2⟩ ?_ ?_
         · (iterate 4 refine q1 _ ?_); refine step (iA (xs := d) (e := (D.int .i64)) hdx rfl rfl rfl rfl) ?_; refine step (iV (xs := d) (e := (D.int .i64)) hdx rfl rfl rfl) ?_; refine q1 _ ?_; refine step (iA (xs := d) (e := (D.int .i64)) hdk rfl rfl rfl rfl) ?_; refine step (ni (e := (D.int .i64)) (v' := (IntKind.i64.wrap (dx + 1))) hd3 rfl rfl rfl rfl rfl) ?_; exact aL.nil' (nm [0, 1] ⟨.d _, .le (id := 0) (nf hd3).symm (show 0 < 2 by decide), .lc 1, .d _, .d _, .d _, .d _, .d _, trivial⟩ ⟨⟨show 0 < 2 by decide, _, rfl, .lst _ _ _⟩, ⟨show 1 < 2 by decide, _, rfl, .lst _ _ _⟩, trivial⟩)
         have hq5 : q4 = q ++ [k] ∧ q.length + 1 ≤ 4294967296 := by
          unfold dc at hq4
          split at hq4
          ·
           rename_i hle; cases hq4; exact ⟨rfl, hle⟩
          ·
           cases hq4
         obtain ⟨rfl, hle⟩ := hq5; refine Bp ?_; refine .inl (q1 _ (aL.nil' ?_)); refine .inl (q1 _ (aL.nil' ?_)); refine .inl (q1 (.d (.vec none [.int .i64 k])) (aL.nil' ?_)); refine .inr ⟨rfl, none, .t 63, .t 65, false, 1, g.length, q.length, false, g ++ List.map (D.int .i64) q, [.int .i64 k], rfl, rfl, rfl, by simp, by simp [eW, fk, cu, dV, az, bq, ao], by simpa [fC] using hle, fun g2 => ?_⟩; refine .inl (q1 (.loc 2 g2.length (q.length + 1)) (aL.nil' ?_)); refine ⟨⟨tab [(0, .d (eL none (eL none (D.int .i64)) a0)), (5, .loc 0 0 d3.length), (7, .loc 1 g2.length (q ++ [k]).length), (8, vi xh), (44, cG l), (45, vi (l.length : Int)), (46, vi i)], fS g2 d3 (q ++ [k]), 2⟩, ?_, tailR g2⟩; have e1 : List.drop g.length (g ++ List.map (D.int .i64) q) ++ [D.int .i64 k] = List.map (D.int .i64) (q ++ [k]) := by simp
         rw [e1]; have e2 : (q ++ [k]).length = q.length + 1 := by simp
         rw [e2]; exact nr [0, 2]
       · replace h := aR hck h; obtain ⟨rfl, rfl⟩ := Prod.mk.inj (bJ h); refine aU rfl hck ?_; refine dX (s0 := ⟨tab [(0, .d (eL none (eL none (D.int .i64)) a0)), (5, .loc 0 0 d.length), (7, .loc 1 g.length q.length), (8, vi xh), (44, cG l), (45, vi (l.length : Int)), (46, vi i)], fS g d q, 2⟩) (nr [0, 1]) ?_; refine ba ?_; exact tailR g
     · rintro g i ⟨d, q⟩ hinv hgo; have hci : ¬ (decide (i < (l.length : Int)) = true) := fun hq => hgo (of_decide_eq_true hq); refine aH ⟨tab [(0, .d (eL none (eL none (D.int .i64)) a0)), (5, .loc 0 0 d.length), (7, .loc 1 g.length q.length), (47, vb (decide (i < (l.length : Int))))], fS g d q, 2⟩ ?_ ?_
       · refine qq ?_; exact nR [0, 1]
       refine aA ?_; refine aU rfl hci ?_; refine dX (s0 := ⟨tab [(0, .d (eL none (eL none (D.int .i64)) a0)), (5, .loc 0 0 d.length), (7, .loc 1 g.length q.length)], fS g d q, 2⟩) (nr [0, 1]) ?_; refine cf ?_; exact ⟨rfl, rfl⟩
     intro g2; obtain ⟨xq, hxq⟩ := Dh hq3; refine dG ⟨tab [(0, .d (eL none (eL none (D.int .i64)) a0)), (5, .loc 0 0 d2.length), (7, .loc 1 (g2 ++ [D.int .i64 xq]).length q3.length)], fS (g2 ++ [D.int .i64 xq]) d2 q3, 2⟩ ?_ ⟨rfl, _, rfl⟩; refine qq ?_; refine step (Dg rfl hq3) ?_; refine qq ?_; have e1 : g2 ++ List.map (D.int .i64) q2 = (g2 ++ [D.int .i64 xq]) ++ List.map (D.int .i64) q3 := by rw [hxq]; simp
     have e2 : (g2 ++ [D.int .i64 xq]).length = g2.length + 1 := by simp
     rw [e2]; refine aL.nil' (nm [0, 1] ⟨.d _, .lc 0, .lc 1, trivial⟩ ⟨⟨show 0 < 2 by decide, _, rfl, .lst _ _ _⟩, ⟨show 1 < 2 by decide, _, rfl, ?_⟩, trivial⟩); rw [e1]; exact .lst _ _ _
   · replace h := aR hc h; cases sj h; refine aU rfl hc ?_; refine dX (s0 := ⟨tab [(5, .loc 0 0 d.length)], aj (eN d), 1⟩) (nr [0]) ?_; refine cf ?_; exact ⟨rfl, g, rfl⟩
 intro g2; refine am ?_; refine q2 ?_; refine nI ?_; refine aX ?_; exact bI (.inr rfl) (aK rfl rfl) (RV.loc rfl (by simp) trivial)
theorem Dn {a0 : Int} {a1 : (List Int)} {a2 : Int} {r : Bool} (h : nD a0 a1 a2 = some r) : PCall Try.prog 119 [.int .i64 a0, .cptr none (eL none (D.int .i64) a1) 0, .cptr none (.int .i64 a2) 0] (.bool r) := by
 refine PCall.inW BW ?_; refine am ?_; refine qq ?_; refine nI ?_; obtain ⟨x1, hx1, h⟩ := aq h; obtain ⟨x2, hx2, h⟩ := aq h; refine am ?_; refine q2 ?_; refine step (bU (xs := a1) (e := (D.int .i64)) hx1 rfl rfl) ?_; refine q3 ?_; refine step (bU (xs := a1) (e := (D.int .i64)) hx2 rfl rfl) ?_; refine q4 ?_; refine nI ?_; cases sj h; refine aX ?_; exact bI (.inr rfl) (aK rfl rfl) (RV.d trivial)
theorem Do {a0 : (List Int)} {a1 : Int → Option Bool} {g_a1 : D} (hf_a1 : pO Try.prog g_a1 (D.int .i64) D.bool a1) {r : Int} (h : nE a0 a1 = some r) : PCall Try.prog 118 [eL none (D.int .i64) a0, g_a1] (.int .i64 r) := by
 obtain ⟨fn_a1, cap_a1, rfl, hc_a1⟩ := hf_a1; refine PCall.inW BY ?_; refine am ?_; refine qq ?_; refine nI ?_; refine aA ?_; refine am ?_; refine qq ?_; refine step (bE (xs := a0) (e := (D.int .i64)) rfl) ?_; refine qq ?_; refine nT [(0, cG a0), (1, .d (.func fn_a1 cap_a1)), (7, vi (a0.length : Int)), (8, vi 0)] ?_; obtain ⟨q10, hl, h⟩ := aq h; refine bx ?_; refine dO (cA (a0.length : Int)) (fun (i1 : Int) (qq : Unit) => ⟨tab [(0, cG a0), (1, .d (.func fn_a1 cap_a1)), (7, vi (a0.length : Int)), (8, vi i1)], aj [], 0⟩) 0 (fun (qq : Unit) => ⟨tab [], aj [], 0⟩) bD cB (r := r) hl (by unfold bD; omega) ?_ ?_ ?_ ?_
 · rintro i1 ⟨⟩ xr6 hinv4 hgo3 h; have hc5 := dy hgo3; refine am ?_; refine qq ?_; refine nI ?_; refine cF 7 rfl fun hB2 => ?_; refine aA ?_; refine aV rfl hc5 ?_; refine ba ?_; refine aA ?_; refine bx ?_; refine am ?_; refine q2 ?_; refine nI ?_; obtain ⟨x7, hx7, h⟩ := aq h; obtain ⟨x8, hx8, h⟩ := aq h; refine am ?_; refine q3 ?_; refine step (bU (xs := a0) (e := (D.int .i64)) hx7 rfl rfl) ?_; refine qq ?_; refine mY (r := .bool x8) rfl (aM bh.nil') (hc_a1 _ _ hx8) ?_; refine nI ?_; by_cases hc9 : x8 = true
   · replace h := aQ hc9 h; refine aV rfl hc9 ?_; refine am ?_; refine q2 ?_; refine nI ?_; obtain ⟨r10, kr10, hr⟩ := cR (o := some i1) (g := Br.ret) h; subst hr; have h := kr10; cases sj h; refine aX ?_; refine And.intro (fun hn => nomatch hn) ?_; intro hq; have hq := hq.symm; subst hq; exact bI (.inr rfl) (aK rfl rfl) (RV.d trivial)
   · replace h := aR hc9 h; refine aU rfl hc9 ?_; refine ba ?_; cases sj h; refine b7 (And.intro rfl rfl) ?_; refine step (cn (co hinv4 hgo3 hB2) rfl rfl) ?_; refine qq ?_; exact nR []
 · rintro i1 ⟨⟩ hinv4 hgo3; have hc5 := dn hgo3; refine am ?_; refine qq ?_; refine nI ?_; refine aA ?_; refine aU rfl hc5 ?_; refine ca [] ?_; refine cf ?_; exact ⟨rfl, rfl⟩
 · intro r' hq; subst hq; exact bJ h
 rintro ⟨⟩ rfl; refine aH ⟨tab [(4, vi (-1))], aj [], 0⟩ ?_ ?_
 · refine qq ?_; exact nR []
 cases sj h; refine aX ?_; exact bI (.inr rfl) (aK rfl rfl) (RV.d trivial)
theorem Dp {a0 : api_Topo} {a1 : Int} {a2 : Int} {r : ((List Int) × Bool)} (h : jU a0 a1 a2 = some r) : PCall Try.prog 104 [eapi_Topo a0, .int .i64 a1, .int .i64 a2] (.tup [eL none (D.int .i64) r.1, .bool r.2]) := by
 refine PCall.inW B0 ?_; refine am ?_; refine q3 ?_; refine nI ?_; obtain ⟨r1, hr1, h⟩ := aq h; refine am ?_; refine qq ?_; refine bP (aM (aM bh.nil')) (Dd hr1) ?_; refine qq ?_; refine nI ?_; refine aA ?_; obtain ⟨r2, hr2, h⟩ := aq h; obtain ⟨y5, hv, h⟩ := aq h; refine aH ⟨tab [(1, vi a1), (2, vi a2), (8, .d (eL none (eL none (D.int .i64)) r1)), (24, vb y5)], aj [], 0⟩ ?_ ?_
 · refine q2 ?_; refine bP (aM (aM bh.nil')) (rQ hr2) ?_; refine q2 ?_; by_cases hg3 : (!r2) = true
   · replace hv := aQ hg3 hv; (iterate 4 refine qX (!r2) (by rw [hg3]; decide) ?_); refine step (aZ rfl hg3 rfl) ?_; cases sj hv; exact nR []
   · replace hv := aR hg3 hv; obtain ⟨r4, hr4, hv⟩ := aq hv; refine gq (bf hg3) ?_; refine gq (bf hg3) ?_; refine qG _ (bf hg3) ?_; refine bP (aM (aM bh.nil')) (rQ hr4) ?_; refine gq (bf hg3) ?_; refine step (bm rfl hg3 rfl) ?_; cases sj hv; exact nR []
 by_cases hc7 : y5 = true
 · replace h := aQ hc7 h; refine aV rfl hc7 ?_; refine am ?_; refine q2 ?_; refine nI ?_; cases sj h; refine aX ?_; exact cd (.inr rfl) (aK rfl (aK rfl rfl)) (RV.d (RV.d trivial))
 · replace h := aR hc7 h; refine aU rfl hc7 ?_; refine ba ?_; obtain ⟨r8, hr8, h⟩ := aq h; refine aH ⟨tab [(1, vi a1), (2, vi a2), (8, .d (eL none (eL none (D.int .i64)) r1)), (9, .ptr 0 0 0)], aj [(0, .var [cG r8])], 1⟩ ?_ ?_
   · refine q2 ?_; refine bP (aM (aM bh.nil')) (Dm hr8) ?_; refine q2 ?_; exact nR [0]
   refine aA ?_; obtain ⟨x9, hx9, h⟩ := aq h; refine am ?_; refine q2 ?_; refine step (bU (xs := r8) (e := (D.int .i64)) hx9 rfl rfl) ?_; refine q2 ?_; refine nI ?_; by_cases hc10 : decide (x9 < 0) = true
   · replace h := aQ hc10 h; refine aV rfl hc10 ?_; refine aH ⟨tab [(6, cG ([] : List Int)), (7, vb false)], aj [], 0⟩ ?_ ?_
     · refine q2 ?_; exact nR []
     cases sj h; refine aX ?_; exact cd (.inr rfl) (aK rfl (aK rfl rfl)) (RV.d (RV.d trivial))
   · replace h := aR hc10 h; refine aU rfl hc10 ?_; refine ba ?_; refine aH ⟨tab [(1, vi a1), (2, vi a2), (8, .d (eL none (eL none (D.int .i64)) r1)), (9, .ptr 0 0 0), (10, .loc 1 0 (([a1] : List Int).length))], aj [(0, .var [cG r8]), (1, .lst false none (List.map (D.int .i64) ([a1] : List Int)))], 2⟩ ?_ ?_
     · refine q3 ?_; exact nR [0, 1]
     refine aA ?_; refine aH ⟨tab [(2, vi a2), (8, .d (eL none (eL none (D.int .i64)) r1)), (9, .ptr 0 0 0), (10, .loc 1 0 (([a1] : List Int).length)), (11, .ptr 2 0 0)], aj [(0, .var [cG r8]), (1, .lst false none (List.map (D.int .i64) ([a1] : List Int))), (2, .var [vi a1])], 3⟩ ?_ ?_
     · refine q3 ?_; exact nR [0, 1, 2]
     obtain ⟨q21, hl, h⟩ := aq h; obtain ⟨z19, z20⟩ := q21; refine bx ?_; refine yE (fun (qq : ((List Int) × Int)) => ⟨tab [(2, vi a2), (8, .d (eL none (eL none (D.int .i64)) r1)), (9, .ptr 0 0 0), (10, .loc 1 0 qq.1.length), (11, .ptr 2 0 0)], aj [(0, .var [cG r8]), (1, .lst false none (List.map (D.int .i64) qq.1)), (2, .var [vi qq.2])], 3⟩) 0 (fun (qq : ((List Int) × Int)) => ⟨tab [(10, .loc 0 0 qq.1.length)], aj (rN qq.1), 1⟩) hl ?_ ?_
     · rintro ⟨l11, i12⟩ xr13 h; refine aA ?_; refine am ?_; refine q3 ?_; refine nI ?_; by_cases hc14 : (i12 != a2) = true
       · replace h := aQ hc14 h; refine aV rfl hc14 ?_; refine ba ?_; refine aA ?_; refine bx ?_; obtain ⟨x15, hx15, h⟩ := aq h; obtain ⟨r16, hr16, h⟩ := aq h; refine aH ⟨tab [(2, vi a2), (8, .d (eL none (eL none (D.int .i64)) r1)), (9, .ptr 0 0 0), (10, .loc 1 0 l11.length), (11, .ptr 2 0 0), (12, vi r16)], aj [(0, .var [cG r8]), (1, .lst false none (List.map (D.int .i64) l11)), (2, .var [vi i12])], 3⟩ ?_ ?_
         · refine q2 ?_; refine step (bU (xs := r1) (e := (eL none (D.int .i64))) hx15 rfl rfl) ?_; refine q2 ?_; refine lH (v := vi r16) (σ' := _) (n' := _) (yM (Do ⟨119, [.cptr none (eL none (D.int .i64) r8) 0, .cptr none (.int .i64 i12) 0], rfl, fun _ _ h => Dn h⟩ hr16) rfl (dZ.c (.d _) (dZ.c (yU (dZ.c (.var1 rfl (.d _) rfl) (dZ.c (.var1 rfl (.d _) rfl) dZ.nil0))) dZ.nil0))) (Nat.le_refl _) ?_; refine qq ?_; exact nR [0, 1, 2]
         obtain ⟨x17, hx17, h⟩ := aq h; refine aH ⟨tab [(2, vi a2), (8, .d (eL none (eL none (D.int .i64)) r1)), (9, .ptr 0 0 0), (10, .loc 1 0 l11.length), (11, .ptr 2 0 0)], aj [(0, .var [cG r8]), (1, .lst false none (List.map (D.int .i64) l11)), (2, .var [vi x17])], 3⟩ ?_ ?_
         · refine q2 ?_; refine step (bU (xs := r1) (e := (eL none (D.int .i64))) hx15 rfl rfl) ?_; refine q2 ?_; refine step (bU (xs := x15) (e := (D.int .i64)) hx17 rfl rfl) ?_; refine q2 ?_; exact nR [0, 1, 2]
         obtain ⟨l18, hl18, h⟩ := aq h; refine dG ⟨tab [(2, vi a2), (8, .d (eL none (eL none (D.int .i64)) r1)), (9, .ptr 0 0 0), (10, .loc 1 0 l18.length), (11, .ptr 2 0 0)], aj [(0, .var [cG r8]), (1, .lst false none (List.map (D.int .i64) l18)), (2, .var [vi x17])], 3⟩ ?_ ?_
         · refine q3 ?_; refine step (fq (xs := l11) (ys := ([x17] : List Int)) (e := (D.int .i64)) hl18 rfl rfl rfl (fV (xs := ([x17] : List Int)) (e := (D.int .i64)) rfl)) ?_; refine qq ?_; exact nR [0, 3, 2]
         refine aH ⟨tab [(2, vi a2), (8, .d (eL none (eL none (D.int .i64)) r1)), (9, .ptr 0 0 0), (10, .loc 1 0 l18.length), (56, vi x17)], aj [(0, .var [cG r8]), (1, .lst false none (List.map (D.int .i64) l18))], 2⟩ ?_ ?_
         · refine qq ?_; exact nR [0, 1]
         cases sj h; refine b7 (And.intro rfl rfl) ?_; refine q2 ?_; exact nR [0, 1, 2]
       · replace h := aR hc14 h; refine aU rfl hc14 ?_; cases sj h; refine dX (s0 := ⟨tab [(10, .loc 0 0 l11.length)], aj (rN l11), 1⟩) (nr [1]) ?_; refine cf ?_; exact ⟨rfl, rfl⟩
     refine aH ⟨tab [(6, .loc 0 0 z19.length), (7, vb true)], aj (rN z19), 1⟩ ?_ ?_
     · refine q3 ?_; exact nR [0]
     cases sj h; refine aX ?_; exact cd (.inr rfl) (aK rfl (aK rfl rfl)) (RV.loc (xs := z19) (e := (D.int .i64)) rfl rfl (RV.d trivial))
theorem vY {a0 : api_Topo} {a1 : Int} {a2 : Int} {r : ((List Int) × Bool)} (h : jV a0 a1 a2 = some r) : PCall Try.prog 86 [eapi_Topo a0, .int .i64 a1, .int .i64 a2] (.tup [eL none (D.int .i64) r.1, .bool r.2]) := by
 refine PCall.inW B1 ?_; refine am ?_; refine q3 ?_; refine nI ?_; obtain ⟨x1, hx1, h⟩ := aq h; obtain ⟨r2, hr2, h⟩ := aq h; refine am ?_; refine q4 ?_; refine step (bU (xs := a0.Hosts) (e := eapi_Port) hx1 rfl rfl) ?_; refine q2 ?_; refine bP (aM (aM bh.nil')) (oS hr2) ?_; refine q4 ?_; refine qq ?_; refine nT [(2, vi a2), (3, bn a0), (8, vi r2.1), (9, vb r2.2)] ?_; obtain ⟨x3, hx3, h⟩ := aq h; obtain ⟨r4, hr4, h⟩ := aq h; refine am ?_; refine q4 ?_; refine step (bU (xs := a0.Hosts) (e := eapi_Port) hx3 rfl rfl) ?_; refine q2 ?_; refine bP (aM (aM bh.nil')) (oS hr4) ?_; refine q4 ?_; refine qq ?_; refine nI ?_; refine aA ?_; refine aH ⟨tab [(3, bn a0), (8, vi r2.1), (10, vi r4.1), (39, vb ((!r2.2) || (!r4.2)))], aj [], 0⟩ ?_ ?_
 · refine q3 ?_; by_cases hg5 : (!r2.2) = true
   · (iterate 2 refine qX (!r2.2) (by rw [hg5]; decide) ?_); refine step (aZ rfl hg5 rfl) ?_; exact aL.nil' (nm [] ⟨.d _, .d _, .d _, .eq (by first | (simp [hg5]; done) | (simp_all; done) | grind), trivial⟩ trivial)
   · refine gq (bf hg5) ?_; refine gq (bf hg5) ?_; refine step (bm rfl hg5 rfl) ?_; exact aL.nil' (nm [] ⟨.d _, .d _, .d _, .eq (by first | (simp [hg5]; done) | (simp_all; done) | grind), trivial⟩ trivial)
 by_cases hc6 : ((!r2.2) || (!r4.2)) = true
 · replace h := aQ hc6 h; refine aV rfl hc6 ?_; refine am ?_; refine q2 ?_; refine nI ?_; cases sj h; refine aX ?_; exact cd (.inr rfl) (aK rfl (aK rfl rfl)) (RV.d (RV.d trivial))
 · replace h := aR hc6 h; refine aU rfl hc6 ?_; refine ba ?_; obtain ⟨r7, hr7, h⟩ := aq h; refine am ?_; refine q3 ?_; refine bP (aM (aM (aM bh.nil'))) (Dp hr7) ?_; refine q4 ?_; refine nI ?_; cases sj h; refine aX ?_; exact cd (.inr rfl) (aK rfl (aK rfl rfl)) (RV.d (RV.d trivial))
theorem Dq {a0 : api_Topo} {a1 : api_Want} {r : Int} (h : kJ a0 a1 = some r) : PCall Try.prog 58 [eapi_Topo a0, eapi_Want a1] (.int .i64 r) := by
 refine PCall.inW B3 ?_; refine am ?_; refine q3 ?_; refine nO ?_; refine q2 ?_; refine nI ?_; refine aA ?_; obtain ⟨r1, hr1, h⟩ := aq h; obtain ⟨y5, hv, h⟩ := aq h; refine aH ⟨tab [(2, bn a0), (3, fg a1), (29, vb y5)], aj [], 0⟩ ?_ ?_
 · refine q3 ?_; refine mY (r := .bool r1) rfl (aM bh.nil') (vV hr1) ?_; refine q2 ?_; by_cases hg2 : (!r1) = true
   · replace hv := aQ hg2 hv; (iterate 5 refine qX (!r1) (by rw [hg2]; decide) ?_); refine step (aZ rfl hg2 rfl) ?_; refine qq ?_; (iterate 5 refine qX true (by decide) ?_); refine step (aZ rfl rfl rfl) ?_; cases sj hv; exact nR []
   · replace hv := aR hg2 hv; obtain ⟨r3, hr3, hv⟩ := aq hv; refine gq (bf hg2) ?_; refine gq (bf hg2) ?_; refine gq (bf hg2) ?_; refine qG _ (bf hg2) ?_; refine mY (r := .bool r3) rfl (aM bh.nil') (vV hr3) ?_; refine gq (bf hg2) ?_; refine step (bm rfl hg2 rfl) ?_; refine qq ?_; by_cases hg4 : (!r3) = true
     · replace hv := aQ hg4 hv; (iterate 5 refine qX (!r3) (by rw [hg4]; decide) ?_); refine step (aZ rfl hg4 rfl) ?_; cases sj hv; exact nR []
     · replace hv := aR hg4 hv; refine gq (bf hg4) ?_; refine gq (bf hg4) ?_; refine gq (bf hg4) ?_; refine gq (bf hg4) ?_; refine gq (bf hg4) ?_; refine step (bm rfl hg4 rfl) ?_; cases sj hv; exact nR []
 by_cases hc7 : y5 = true
 · replace h := aQ hc7 h; refine aV rfl hc7 ?_; refine am ?_; refine qq ?_; refine nI ?_; cases sj h; refine aX ?_; exact bI (.inr rfl) (aK rfl rfl) (RV.d trivial)
 · replace h := aR hc7 h; refine aU rfl hc7 ?_; refine ba ?_; refine aA ?_; refine am ?_; refine q2 ?_; refine step (bE (xs := a1.Match) (e := eapi_Pair) rfl) ?_; refine qq ?_; refine nT [(2, bn a0), (3, fg a1), (31, ff a1.Match), (32, vi (a1.Match.length : Int)), (33, vi 0)] ?_; obtain ⟨q24, hl, h⟩ := aq h; refine bx ?_; refine dO (cA (a1.Match.length : Int)) (fun (i8 : Int) (qq : Unit) => ⟨tab [(2, bn a0), (3, fg a1), (31, ff a1.Match), (32, vi (a1.Match.length : Int)), (33, vi i8)], aj [], 0⟩) 0 (fun (qq : Unit) => ⟨tab [(2, bn a0), (3, fg a1)], aj [], 0⟩) bD cB (r := r) hl (by unfold bD; omega) ?_ ?_ ?_ ?_
   · rintro i8 ⟨⟩ xr13 hinv11 hgo10 h; have hc12 := dy hgo10; refine am ?_; refine qq ?_; refine nI ?_; refine cF 32 rfl fun hB9 => ?_; refine aA ?_; refine aV rfl hc12 ?_; refine ba ?_; refine aA ?_; refine bx ?_; obtain ⟨x14, hx14, h⟩ := aq h; refine aH ⟨tab [(2, bn a0), (3, fg a1), (6, vi i8), (7, .ptr 0 0 0), (31, ff a1.Match), (32, vi (a1.Match.length : Int)), (33, vi i8)], aj [(0, .var [vi x14.F, vh x14.N])], 1⟩ ?_ ?_
     · refine qq ?_; refine step (bU (xs := a1.Match) (e := eapi_Pair) hx14 rfl rfl) ?_; refine q4 ?_; exact nR [0]
     obtain ⟨y19, hv, h⟩ := aq h; refine aH ⟨tab [(2, bn a0), (3, fg a1), (31, ff a1.Match), (32, vi (a1.Match.length : Int)), (33, vi i8), (61, vb y19)], aj [], 0⟩ ?_ ?_
     · refine q4 ?_; by_cases hg15 : decide (x14.F < 4) = true
       · replace hv := aQ hg15 hv; (iterate 3 refine qX (decide (x14.F < 4)) (by rw [hg15]; decide) ?_); refine step (aZ rfl hg15 rfl) ?_; refine qq ?_; (iterate 3 refine qX true (by decide) ?_); refine bB rfl ?_; refine bB rfl ?_; refine bB rfl ?_; refine bB rfl ?_; refine bB rfl ?_; refine bB rfl ?_; refine bB rfl ?_; refine bB rfl ?_; refine bB rfl ?_; refine bB rfl ?_; refine qX true (by decide) ?_; refine step (aZ rfl rfl rfl) ?_; cases sj hv; exact nR []
       · replace hv := aR hg15 hv; refine gq (bf hg15) ?_; refine gq (bf hg15) ?_; refine gq (bf hg15) ?_; refine step (bm rfl hg15 rfl) ?_; refine qq ?_; by_cases hg16 : decide (x14.F > 7) = true
         · replace hv := aQ hg16 hv; (iterate 3 refine qX (decide (x14.F > 7)) (by rw [hg16]; decide) ?_); refine bB rfl ?_; refine bB rfl ?_; refine bB rfl ?_; refine bB rfl ?_; refine bB rfl ?_; refine bB rfl ?_; refine bB rfl ?_; refine bB rfl ?_; refine bB rfl ?_; refine bB rfl ?_; refine qX (decide (x14.F > 7)) (by rw [hg16]; decide) ?_; refine step (aZ rfl hg16 rfl) ?_; cases sj hv; exact nR []
         · replace hv := aR hg16 hv; refine gq (bf hg16) ?_; refine gq (bf hg16) ?_; refine gq (bf hg16) ?_; by_cases hg17 : decide (i8 > 0) = true
           · replace hv := aQ hg17 hv; obtain ⟨x18, hx18, hv⟩ := aq hv; refine gq hg17 ?_; refine gq hg17 ?_; refine gq hg17 ?_; refine gq hg17 ?_; refine qG _ hg17 ?_; refine step (bU (xs := a1.Match) (e := eapi_Pair) hx18 rfl rfl) ?_; refine gq hg17 ?_; refine gq hg17 ?_; refine gq hg17 ?_; refine gq hg17 ?_; refine gq hg17 ?_; refine qG _ (bf hg16) ?_; refine step (aZ rfl hg17 rfl) ?_; refine step (bm rfl hg16 rfl) ?_; cases sj hv; exact nR []
           · replace hv := aR hg17 hv; (iterate 10 refine gX hg17 ?_); refine qG _ (bf hg16) ?_; refine step (bm rfl hg17 rfl) ?_; refine step (bm rfl hg16 rfl) ?_; cases sj hv; exact nR []
     by_cases hc21 : y19 = true
     · replace h := aQ hc21 h; refine aV rfl hc21 ?_; refine am ?_; refine qq ?_; refine nI ?_; obtain ⟨r22, kr22, hr⟩ := cR (o := some 1) (g := Br.ret) h; subst hr; have h := kr22; cases sj h; refine aX ?_; refine And.intro (fun hn => nomatch hn) ?_; intro hq; have hq := hq.symm; subst hq; exact bI (.inr rfl) (aK rfl rfl) (RV.d trivial)
     · replace h := aR hc21 h; refine aU rfl hc21 ?_; refine ba ?_; cases sj h; refine b7 (And.intro rfl rfl) ?_; refine step (cn (co hinv11 hgo10 hB9) rfl rfl) ?_; refine qq ?_; exact nR []
   · rintro i8 ⟨⟩ hinv11 hgo10; have hc12 := dn hgo10; refine am ?_; refine qq ?_; refine nI ?_; refine aA ?_; refine aU rfl hc12 ?_; refine ca [(2, bn a0), (3, fg a1)] ?_; refine cf ?_; exact ⟨rfl, rfl⟩
   · intro r' hq; subst hq; exact bJ h
   rintro ⟨⟩ rfl; refine aA ?_; obtain ⟨r22, hr22, h⟩ := aq h; refine aH ⟨tab [(9, vb r22.2)], aj [], 0⟩ ?_ ?_
   · refine q4 ?_; refine qq ?_; refine bP (aM (aM (aM bh.nil'))) (vY hr22) ?_; refine q4 ?_; refine qq ?_; exact nR []
   refine am ?_; refine q2 ?_; refine nI ?_; by_cases hc23 : (!r22.2) = true
   · replace h := aQ hc23 h; refine aV rfl hc23 ?_; refine am ?_; refine qq ?_; refine nI ?_; cases sj h; refine aX ?_; exact bI (.inr rfl) (aK rfl rfl) (RV.d trivial)
   · replace h := aR hc23 h; refine aU rfl hc23 ?_; refine ba ?_; refine am ?_; refine qq ?_; refine nI ?_; cases sj h; refine aX ?_; exact bI (.inr rfl) (aK rfl rfl) (RV.d trivial)
theorem vZ {a0 : Int} {r : Int} (h : lU a0 = some r) : PCall Try.prog 88 [.int .i64 a0] (.int .u16 r) := by
 refine PCall.inW B4 ?_; refine am ?_; refine qq ?_; refine nO ?_; refine q4 ?_; refine nI ?_; cases sj h; refine aX ?_; exact bI (.inr rfl) (aK rfl rfl) (RV.d trivial)
theorem oU {a0 : Int} {a1 : Int} {r : ak} (h : iZ a0 a1 = some r) : PCall Try.prog 87 [.int .i64 a0, .int .u16 a1] (cb r) := by
 refine PCall.inW B5 ?_; refine aH ⟨tab [(0, vi a0), (1, vh a1), (4, .ptr 0 0 0)], aj [(0, fh)], 1⟩ ?_ ?_
 · refine qq ?_; exact nR [0]
 refine aH ⟨tab [(4, .ptr 0 0 0)], aj [(0, .var [vi 2, vi a0, vh a1, cN []])], 1⟩ ?_ ?_
 · refine q2 ?_; refine step (eS (ds := [.int .i64 2, .int .i64 a0, .int .u16 a1, eL (some 4) bk []]) rfl) ?_; refine qq ?_; exact nR [0]
 cases sj h; refine aX ?_; exact bI (.inr rfl) (fK (ds := [.int .i64 2, .int .i64 a0, .int .u16 a1, eL (some 4) bk []]) rfl rfl (show 4 ≤ 4 by decide) rfl rfl) (RV.d trivial)
theorem v6 {a0 : api_Want} {a1 : (List ak)} {r : (List ak)} (h : lV a0 a1 = some r) : db Try.prog 59 [vU a0, .loc 0 0 a1.length] (aj [(0, .lst true (some 4) (List.map bk a1))]) 1 (.loc 1 0 r.length) (aj [(1, .lst true (some 4) (List.map bk r))]) 2 := by
 refine db.inW B7 ?_; refine am ?_; refine q2 ?_; refine nI ?_; obtain ⟨r1, hr1, h⟩ := aq h; obtain ⟨r2, hr2, h⟩ := aq h; obtain ⟨r3, hr3, h⟩ := aq h; obtain ⟨r4, hr4, h⟩ := aq h; obtain ⟨l5, hl5, h⟩ := aq h; refine rF ⟨tab [(2, fg a0), (5, .loc 1 0 l5.length)], aj [(1, .lst true (some 4) (List.map bk l5))], 2⟩ ?_ ?_
 · refine bO [] [] (v := .loc 0 0 a1.length) rfl rfl rfl ?_; refine bO [] [] (v := fg a0) rfl rfl rfl ?_; refine bO [] [] (v := vi a0.From) rfl rfl rfl ?_; refine ms (r := .int .u16 r1) [] (aM bh.nil') (vZ hr1) rfl ?_; refine ms (r := cb r2) [] (aM (aM bh.nil')) (oU hr2) rfl ?_; refine bO [] [] (v := .d (.cptr (some 4) (eapi_Want a0) 1)) rfl rfl rfl ?_; refine bO [] [] (v := vi a0.To) rfl rfl rfl ?_; refine ms (r := .int .u16 r3) [] (aM bh.nil') (vZ hr3) rfl ?_; refine ms (r := cb r4) [] (aM (aM bh.nil')) (oU hr4) rfl ?_; refine bO [] [] (v := cN ([r2, r4] : List ak)) (iW rfl (by simp [eL, eB])) rfl rfl ?_; refine bO [0] [0] (v := .loc 1 0 l5.length) (σ' := (ao (ao (aj [(0, .lst true (some 4) (List.map bk a1))]) 0 none) 1 (some (.lst true (some 4) (List.map bk l5))))) (n' := 2) (fq (xs := a1) (ys := ([r2, r4] : List ak)) (e := bk) hl5 rfl rfl rfl (fV (xs := ([r2, r4] : List ak)) (e := bk) rfl)) rfl rfl ?_; refine bO [] [] (v := .loc 1 0 l5.length) rfl rfl rfl ?_; exact ce.nil' ⟨by decide, nr [0, 1]⟩
 refine aA ?_; refine am ?_; refine q2 ?_; refine step (bE (xs := a0.Match) (e := eapi_Pair) rfl) ?_; refine qq ?_; refine nT [(5, .loc 1 0 l5.length), (20, ff a0.Match), (21, vi (a0.Match.length : Int)), (22, vi 0)] ?_; obtain ⟨z16, hl, h⟩ := aq h; refine bx ?_; refine fJ (cA (a0.Match.length : Int)) (fun (i7 : Int) (qq : (List ak)) => ⟨tab [(5, .loc 1 0 qq.length), (20, ff a0.Match), (21, vi (a0.Match.length : Int)), (22, vi i7)], aj [(1, .lst true (some 4) (List.map bk qq))], 2⟩) 0 (fun (qq : (List ak)) => ⟨tab [(5, .loc 1 0 qq.length)], aj [(1, .lst true (some 4) (List.map bk qq))], 2⟩) bD cB hl (by unfold bD; omega) ?_ ?_ ?_
 · rintro i7 l6 xr12 hinv10 hgo9 h; have hc11 := dy hgo9; refine am ?_; refine qq ?_; refine nI ?_; refine cF 21 rfl fun hB8 => ?_; refine aA ?_; refine aV rfl hc11 ?_; refine ba ?_; refine aA ?_; refine bx ?_; obtain ⟨x13, hx13, h⟩ := aq h; refine aH ⟨tab [(5, .loc 1 0 l6.length), (7, .ptr 2 0 0), (20, ff a0.Match), (21, vi (a0.Match.length : Int)), (22, vi i7)], aj [(1, .lst true (some 4) (List.map bk l6)), (2, .var [vi x13.F, vh x13.N])], 3⟩ ?_ ?_
   · refine step (bU (xs := a0.Match) (e := eapi_Pair) hx13 rfl rfl) ?_; refine q3 ?_; exact nR [0, 1, 2]
   obtain ⟨r14, hr14, h⟩ := aq h; obtain ⟨l15, hl15, h⟩ := aq h; refine dG ⟨tab [(5, .loc 1 0 l15.length), (20, ff a0.Match), (21, vi (a0.Match.length : Int)), (22, vi i7)], aj [(1, .lst true (some 4) (List.map bk l15))], 2⟩ ?_ ?_
   · refine q4 ?_; refine qq ?_; refine bP (aM (aM bh.nil')) (oU hr14) ?_; refine step (v := cN ([r14] : List ak)) (iW rfl (by simp [eL, eB])) ?_; refine step (fq (xs := l6) (ys := ([r14] : List ak)) (e := bk) hl15 rfl rfl rfl (fV (xs := ([r14] : List ak)) (e := bk) rfl)) ?_; refine qq ?_; exact nR [0, 3]
   cases sj h; refine b7 (And.intro rfl rfl) ?_; refine step (cn (co hinv10 hgo9 hB8) rfl rfl) ?_; refine qq ?_; exact nR [0, 1]
 · rintro i7 l6 hinv10 hgo9; have hc11 := dn hgo9; refine am ?_; refine qq ?_; refine nI ?_; refine aA ?_; refine aU rfl hc11 ?_; refine ca [(5, .loc 1 0 l6.length)] ?_; refine cf ?_; exact ⟨rfl, rfl⟩
 refine aH ⟨tab [(4, .loc 1 0 z16.length)], aj [(1, .lst true (some 4) (List.map bk z16))], 2⟩ ?_ ?_
 · refine q2 ?_; exact nR [0, 1]
 cases sj h; refine aX ?_; exact ⟨.inr rfl, _, rfl, rfl, fH.sub ⟨rfl, trivial⟩, rfl⟩
theorem Dr {a0 : api_Topo} {a1 : Int} {a2 : Int} {r : (Int × Bool)} (h : kK a0 a1 a2 = some r) : PCall Try.prog 89 [eapi_Topo a0, .int .i64 a1, .int .i64 a2] (.tup [.int .u16 r.1, .bool r.2]) := by
 refine PCall.inW B9 ?_; refine am ?_; refine q3 ?_; refine nI ?_; refine aA ?_; refine aH ⟨tab [(1, vi a1), (2, vi a2), (3, bn a0), (36, vb ((decide (a1 < 0)) || ((decide (a1 ≥ (a0.Switches.length : Int))) || ((decide (a2 < 0)) || ((decide (a2 ≥ (a0.Switches.length : Int))) || (a1 == a2))))))], aj [], 0⟩ ?_ ?_
 · refine q3 ?_; by_cases hg1 : decide (a1 < 0) = true
   · (iterate 5 refine qX (decide (a1 < 0)) (by rw [hg1]; decide) ?_); refine step (aZ rfl hg1 rfl) ?_; refine qq ?_; (iterate 2 refine qX true (by decide) ?_); refine step (aZ rfl rfl rfl) ?_; refine qq ?_; (iterate 5 refine qX true (by decide) ?_); refine step (aZ rfl rfl rfl) ?_; refine qq ?_; (iterate 3 refine qX true (by decide) ?_); refine step (aZ rfl rfl rfl) ?_; exact aL.nil' (nm [] ⟨.d _, .d _, .d _, .eq (by first | (simp [hg1]; done) | (simp_all; done) | grind), trivial⟩ trivial)
   · refine gq (bf hg1) ?_; refine gq (bf hg1) ?_; refine gq (bf hg1) ?_; refine qG _ (bf hg1) ?_; refine step (bE (xs := a0.Switches) (e := (D.int .u16)) rfl) ?_; refine gq (bf hg1) ?_; refine step (bm rfl hg1 rfl) ?_; refine qq ?_; by_cases hg2 : decide (a1 ≥ (a0.Switches.length : Int)) = true
     · (iterate 2 refine qX (decide (a1 ≥ (a0.Switches.length : Int))) (by rw [hg2]; decide) ?_); refine step (aZ rfl hg2 rfl) ?_; refine qq ?_; (iterate 5 refine qX true (by decide) ?_); refine step (aZ rfl rfl rfl) ?_; refine qq ?_; (iterate 3 refine qX true (by decide) ?_); refine step (aZ rfl rfl rfl) ?_; exact aL.nil' (nm [] ⟨.d _, .d _, .d _, .eq (by first | (simp [hg1, hg2]; done) | (simp_all; done) | grind), trivial⟩ trivial)
     · refine gq (bf hg2) ?_; refine gq (bf hg2) ?_; refine step (bm rfl hg2 rfl) ?_; refine qq ?_; by_cases hg3 : decide (a2 < 0) = true
       · (iterate 5 refine qX (decide (a2 < 0)) (by rw [hg3]; decide) ?_); refine step (aZ rfl hg3 rfl) ?_; refine qq ?_; (iterate 3 refine qX true (by decide) ?_); refine step (aZ rfl rfl rfl) ?_; exact aL.nil' (nm [] ⟨.d _, .d _, .d _, .eq (by first | (simp [hg1, hg2, hg3]; done) | (simp_all; done) | grind), trivial⟩ trivial)
       · refine gq (bf hg3) ?_; refine gq (bf hg3) ?_; refine gq (bf hg3) ?_; refine qG _ (bf hg3) ?_; refine step (bE (xs := a0.Switches) (e := (D.int .u16)) rfl) ?_; refine gq (bf hg3) ?_; refine step (bm rfl hg3 rfl) ?_; refine qq ?_; by_cases hg4 : decide (a2 ≥ (a0.Switches.length : Int)) = true
         · (iterate 3 refine qX (decide (a2 ≥ (a0.Switches.length : Int))) (by rw [hg4]; decide) ?_); refine step (aZ rfl hg4 rfl) ?_; exact aL.nil' (nm [] ⟨.d _, .d _, .d _, .eq (by first | (simp [hg1, hg2, hg3, hg4]; done) | (simp_all; done) | grind), trivial⟩ trivial)
         · refine gq (bf hg4) ?_; refine gq (bf hg4) ?_; refine gq (bf hg4) ?_; refine step (bm rfl hg4 rfl) ?_; exact aL.nil' (nm [] ⟨.d _, .d _, .d _, .eq (by first | (simp [hg1, hg2, hg3, hg4]; done) | (simp_all; done) | grind), trivial⟩ trivial)
 by_cases hc5 : ((decide (a1 < 0)) || ((decide (a1 ≥ (a0.Switches.length : Int))) || ((decide (a2 < 0)) || ((decide (a2 ≥ (a0.Switches.length : Int))) || (a1 == a2))))) = true
 · replace h := aQ hc5 h; refine aV rfl hc5 ?_; refine am ?_; refine q2 ?_; refine nI ?_; cases sj h; refine aX ?_; exact cd (.inr rfl) (aK rfl (aK rfl rfl)) (RV.d (RV.d trivial))
 · replace h := aR hc5 h; refine aU rfl hc5 ?_; refine ba ?_; obtain ⟨x6, hx6, h⟩ := aq h; obtain ⟨x7, hx7, h⟩ := aq h; refine am ?_; refine q3 ?_; refine step (bU (xs := a0.Switches) (e := (D.int .u16)) hx6 rfl rfl) ?_; refine q4 ?_; refine step (bU (xs := a0.Switches) (e := (D.int .u16)) hx7 rfl rfl) ?_; refine q3 ?_; refine nI ?_; refine aA ?_; refine am ?_; refine q2 ?_; refine step (bE (xs := a0.Links) (e := (dL eapi_Port)) rfl) ?_; refine qq ?_; refine nT [(8, vh x6), (9, vh x7), (48, du a0.Links), (49, vi (a0.Links.length : Int)), (50, vi 0)] ?_; obtain ⟨q19, hl, h⟩ := aq h; refine bx ?_; refine dO (cA (a0.Links.length : Int)) (fun (i8 : Int) (qq : Unit) => ⟨tab [(8, vh x6), (9, vh x7), (48, du a0.Links), (49, vi (a0.Links.length : Int)), (50, vi i8)], aj [], 0⟩) 0 (fun (qq : Unit) => ⟨tab [], aj [], 0⟩) bD cB (r := r) hl (by unfold bD; omega) ?_ ?_ ?_ ?_
   · rintro i8 ⟨⟩ xr13 hinv11 hgo10 h; have hc12 := dy hgo10; refine am ?_; refine qq ?_; refine nI ?_; refine cF 49 rfl fun hB9 => ?_; refine aA ?_; refine aV rfl hc12 ?_; refine ba ?_; refine aA ?_; refine bx ?_; obtain ⟨x14, hx14, h⟩ := aq h; refine aH ⟨tab [(8, vh x6), (9, vh x7), (11, .ptr 0 0 0), (48, du a0.Links), (49, vi (a0.Links.length : Int)), (50, vi i8)], aj [(0, .var [vh x14.a0.Sw, vh x14.a0.Pt, vh x14.a1.Sw, vh x14.a1.Pt])], 1⟩ ?_ ?_
     · refine step (bU (xs := a0.Links) (e := (dL eapi_Port)) hx14 rfl rfl) ?_; refine q3 ?_; exact nR [0]
     refine bx ?_; refine aH ⟨tab [(8, vh x6), (9, vh x7), (11, .ptr 0 0 0), (48, du a0.Links), (49, vi (a0.Links.length : Int)), (50, vi i8), (54, vb ((x14.a0.Sw == x6) && (x14.a1.Sw == x7)))], aj [(0, .var [vh x14.a0.Sw, vh x14.a0.Pt, vh x14.a1.Sw, vh x14.a1.Pt])], 1⟩ ?_ ?_
     · refine q4 ?_; refine q2 ?_; by_cases hg15 : (x14.a0.Sw == x6) = true
       · refine gq hg15 ?_; refine gq hg15 ?_; refine gq hg15 ?_; refine gq hg15 ?_; refine gq hg15 ?_; refine step (aZ rfl hg15 rfl) ?_; refine qq ?_; exact aL.nil' (nm [0] ⟨.d _, .d _, .pt 0, .d _, .d _, .d _, .eq (by first | (simp [hg15]; done) | (simp_all; done) | grind), trivial⟩ ⟨⟨show 0 < 1 by decide, _, rfl, .vars ⟨.d _, .d _, .d _, .d _, trivial⟩⟩, trivial⟩)
       · (iterate 5 refine gX hg15 ?_); refine step (bm rfl hg15 rfl) ?_; refine qq ?_; exact aL.nil' (nm [0] ⟨.d _, .d _, .pt 0, .d _, .d _, .d _, .eq (by first | (simp [hg15]; done) | (simp_all; done) | grind), trivial⟩ ⟨⟨show 0 < 1 by decide, _, rfl, .vars ⟨.d _, .d _, .d _, .d _, trivial⟩⟩, trivial⟩)
     by_cases hc16 : ((x14.a0.Sw == x6) && (x14.a1.Sw == x7)) = true
     · replace h := aQ hc16 h; refine aV rfl hc16 ?_; refine aH ⟨tab [(6, vh x14.a0.Pt), (7, vb true)], aj [], 0⟩ ?_ ?_
       · refine q4 ?_; refine qq ?_; exact nR []
       obtain ⟨r17, kr17, hr⟩ := cR (o := some (x14.a0.Pt, true)) (g := Br.ret) h; subst hr; have h := kr17; cases sj h; refine aX ?_; refine And.intro (fun hn => nomatch hn) ?_; intro hq; have hq := hq.symm; subst hq; exact cd (.inr rfl) (aK rfl (aK rfl rfl)) (RV.d (RV.d trivial))
     · replace h := aR hc16 h; refine aU rfl hc16 ?_; refine aH ⟨tab [(8, vh x6), (9, vh x7), (11, .ptr 0 0 0), (48, du a0.Links), (49, vi (a0.Links.length : Int)), (50, vi i8), (70, vb ((x14.a1.Sw == x6) && (x14.a0.Sw == x7)))], aj [(0, .var [vh x14.a0.Sw, vh x14.a0.Pt, vh x14.a1.Sw, vh x14.a1.Pt])], 1⟩ ?_ ?_
       · refine q4 ?_; refine q2 ?_; by_cases hg17 : (x14.a1.Sw == x6) = true
         · refine gq hg17 ?_; refine gq hg17 ?_; refine gq hg17 ?_; refine gq hg17 ?_; refine gq hg17 ?_; refine step (aZ rfl hg17 rfl) ?_; refine qq ?_; exact aL.nil' (nm [0] ⟨.d _, .d _, .pt 0, .d _, .d _, .d _, .eq (by first | (simp [hg17]; done) | (simp_all; done) | grind), trivial⟩ ⟨⟨show 0 < 1 by decide, _, rfl, .vars ⟨.d _, .d _, .d _, .d _, trivial⟩⟩, trivial⟩)
         · (iterate 5 refine gX hg17 ?_); refine step (bm rfl hg17 rfl) ?_; refine qq ?_; exact aL.nil' (nm [0] ⟨.d _, .d _, .pt 0, .d _, .d _, .d _, .eq (by first | (simp [hg17]; done) | (simp_all; done) | grind), trivial⟩ ⟨⟨show 0 < 1 by decide, _, rfl, .vars ⟨.d _, .d _, .d _, .d _, trivial⟩⟩, trivial⟩)
       by_cases hc18 : ((x14.a1.Sw == x6) && (x14.a0.Sw == x7)) = true
       · replace h := aQ hc18 h; refine aV rfl hc18 ?_; refine aH ⟨tab [(6, vh x14.a1.Pt), (7, vb true)], aj [], 0⟩ ?_ ?_
         · refine q4 ?_; refine qq ?_; exact nR []
         obtain ⟨r19, kr19, hr⟩ := cR (o := some (x14.a1.Pt, true)) (g := Br.ret) h; subst hr; have h := kr19; cases sj h; refine aX ?_; refine And.intro (fun hn => nomatch hn) ?_; intro hq; have hq := hq.symm; subst hq; exact cd (.inr rfl) (aK rfl (aK rfl rfl)) (RV.d (RV.d trivial))
       · replace h := aR hc18 h; refine aU rfl hc18 ?_; refine ba ?_; cases sj h; refine b7 (And.intro rfl rfl) ?_; refine step (cn (co hinv11 hgo10 hB9) rfl rfl) ?_; refine qq ?_; exact nR []
   · rintro i8 ⟨⟩ hinv11 hgo10; have hc12 := dn hgo10; refine am ?_; refine qq ?_; refine nI ?_; refine aA ?_; refine aU rfl hc12 ?_; refine ca [] ?_; refine cf ?_; exact ⟨rfl, rfl⟩
   · intro r' hq; subst hq; exact bJ h
   rintro ⟨⟩ rfl; refine aH ⟨tab [(6, vh 0), (7, vb false)], aj [], 0⟩ ?_ ?_
   · refine q2 ?_; exact nR []
   cases sj h; refine aX ?_; exact cd (.inr rfl) (aK rfl (aK rfl rfl)) (RV.d (RV.d trivial))
theorem Dt {a0 : api_Topo} {a1 : api_Want} {r : (List ak)} (h : nF a0 a1 = some r) : PCall Try.prog 60 [eapi_Topo a0, eapi_Want a1] (eL (some 4) bk r) := by
 refine PCall.inW Cb ?_; refine am ?_; refine q3 ?_; refine nI ?_; obtain ⟨r1, hr1, h⟩ := aq h; refine am ?_; refine q4 ?_; refine qq ?_; refine bP (aM (aM (aM bh.nil'))) (vY hr1) ?_; refine q4 ?_; refine qq ?_; refine nO ?_; refine qq ?_; refine nT [(2, bn a0), (3, fg a1), (5, cG r1.1), (7, .d (.nils))] ?_; refine aA ?_; refine am ?_; refine qq ?_; refine step (bE (xs := r1.1) (e := (D.int .i64)) rfl) ?_; refine qq ?_; refine nI ?_; obtain ⟨z21, hl, h⟩ := aq h; refine dX (s0 := ⟨tab [(2, bn a0), (3, fg a1), (5, cG r1.1), (7, .loc 0 0 (([] : List ak).length)), (21, cG r1.1), (22, vi (r1.1.length : Int)), (23, vi 0)], aj (il ([] : List ak)), 1⟩) (bN.trans (s2 := ⟨tab [(2, bn a0), (3, fg a1), (5, cG r1.1), (7, .loc 0 0 (([] : List ak).length)), (21, cG r1.1), (22, vi (r1.1.length : Int)), (23, vi 0)], aj (il ([] : List ak)), 1⟩) (kE 7 false (some 4) rfl) (nr [0])) ?_; refine bx ?_; refine fJ (cA (r1.1.length : Int)) (fun (i3 : Int) (qq : (List ak)) => ⟨tab [(2, bn a0), (3, fg a1), (5, cG r1.1), (7, .loc 0 0 qq.length), (21, cG r1.1), (22, vi (r1.1.length : Int)), (23, vi i3)], aj (il qq), 1⟩) 0 (fun (qq : (List ak)) => ⟨tab [(7, .loc 0 0 qq.length)], aj (il qq), 1⟩) bD cB hl (by unfold bD; omega) ?_ ?_ ?_
 · rintro i3 l2 xr8 hinv6 hgo5 h; have hc7 := dy hgo5; refine am ?_; refine qq ?_; refine nI ?_; refine cF 22 rfl fun hB4 => ?_; refine aA ?_; refine aV rfl hc7 ?_; refine ba ?_; refine aA ?_; refine bx ?_; obtain ⟨x9, hx9, h⟩ := aq h; refine am ?_; refine qq ?_; refine step (bU (xs := r1.1) (e := (D.int .i64)) hx9 rfl rfl) ?_; refine q3 ?_; refine nI ?_; obtain ⟨x10, hx10, h⟩ := aq h; refine am ?_; refine q4 ?_; refine step (bU (xs := a0.Hosts) (e := eapi_Port) hx10 rfl rfl) ?_; refine q3 ?_; refine nI ?_; obtain ⟨y14, hv, h⟩ := aq h; refine gz ⟨tab [(2, bn a0), (3, fg a1), (5, cG r1.1), (7, .loc 0 0 l2.length), (9, vi x9), (10, vh y14), (21, cG r1.1), (22, vi (r1.1.length : Int)), (23, vi i3)], aj (il l2), 1⟩ ?_ ?_
   · replace h := hv; refine am ?_; refine qq ?_; refine step (cn (co hinv6 hgo5 hB4) rfl rfl) ?_; refine qq ?_; refine step (bE (xs := r1.1) (e := (D.int .i64)) rfl) ?_; refine qq ?_; refine nI ?_; by_cases hc11 : decide ((i3 + 1) < (r1.1.length : Int)) = true
     · replace h := aQ hc11 h; refine aV rfl hc11 ?_; obtain ⟨x12, hx12, h⟩ := aq h; obtain ⟨r13, hr13, h⟩ := aq h; cases sj h; refine b7 (And.intro rfl rfl) ?_; refine q4 ?_; refine step (cn (co hinv6 hgo5 hB4) rfl rfl) ?_; refine step (bU (xs := r1.1) (e := (D.int .i64)) hx12 rfl rfl) ?_; refine qq ?_; refine bP (aM (aM (aM bh.nil'))) (Dr hr13) ?_; refine q4 ?_; exact nR [0]
     · replace h := aR hc11 h; refine aU rfl hc11 ?_; cases sj h; refine ca [(2, bn a0), (3, fg a1), (5, cG r1.1), (7, .loc 0 0 l2.length), (9, vi x9), (10, vh x10.Pt), (21, cG r1.1), (22, vi (r1.1.length : Int)), (23, vi i3)] ?_; refine ba ?_; exact ⟨rfl, rfl⟩
   obtain ⟨x16, hx16, h⟩ := aq h; obtain ⟨r17, hr17, h⟩ := aq h; obtain ⟨r18, hr18, h⟩ := aq h; obtain ⟨l19, hl19, h⟩ := aq h; refine rF ⟨tab [(2, bn a0), (3, fg a1), (5, cG r1.1), (7, .loc 0 0 l2.length), (11, .loc 1 0 l19.length), (21, cG r1.1), (22, vi (r1.1.length : Int)), (23, vi i3)], aj [(0, .lst false (some 4) (List.map bk l2)), (1, .lst false (some 4) (List.map bk l19))], 2⟩ ?_ ?_
   · refine bO [] [] (v := vU a1) rfl rfl rfl ?_; refine bO [] [] (v := bn a0) rfl rfl rfl ?_; refine bO [] [] (v := cK a0.Switches) rfl rfl rfl ?_; refine bO [] [] (v := vi x9) rfl rfl rfl ?_; refine bO [] [] (v := .d (.cptr none (.int .u16 x16) 0)) (bU (xs := a0.Switches) (e := (D.int .u16)) hx16 rfl rfl) rfl rfl ?_; refine bO [] [] (v := vh x16) rfl rfl rfl ?_; refine ms (r := cb r17) [] (aM (aM bh.nil')) (oU hr17) rfl ?_; refine bO [] [] (v := .loc 1 0 (([r17] : List ak).length)) (σ' := (ao (aj (il l2)) 1 (some (.lst true (some 4) (List.map bk ([r17] : List ak)))))) (n' := 2) (yH rfl (by simp only [List.map, eB])) rfl rfl ?_; refine Ba (σ' := (ao (ao (ao (aj (il l2)) 1 (some (.lst true (some 4) (List.map bk ([r17] : List ak))))) 1 none) 2 (some (.lst false (some 4) (List.map bk r18))))) (R := [1]) (W := [1]) (m := 3) (Bd [1] (db.frz (v6 hr18)) (by decide) (by decide) (by decide) (nn (show 1 < 2 by decide) np) [(1, .lst true (some 4) (List.map bk ([r17] : List ak)))] rfl (dh.c (.d _) (dh.c (.lc 0) dh.nil0)) (SN.c (show 0 < 1 by decide) rfl (.lst _ _ _) SN.nil0) (.loc 2 0 r18.length) rfl [(1, none), (2, some (.lst false (some 4) (List.map bk r18)))] [1] 3 rfl rfl rfl rfl (fun _ => rfl)) ⟨rfl, trivial⟩ rfl rfl ?_; refine bO [] [] (v := vh y14) rfl rfl rfl ?_; refine bO [] [] (v := vs1 (ak.mk 5 1 y14 [])) (eS (ds := [.int .i64 5, .int .i64 1, .int .u16 y14, eL (some 4) bk []]) rfl) rfl rfl ?_; refine bO [] [] (v := cN ([(ak.mk 5 1 y14 [])] : List ak)) (iW rfl (by simp [eL, eB])) rfl rfl ?_; refine bO [2] [2] (v := .loc 3 0 l19.length) (σ' := (ao (ao (ao (ao (ao (aj (il l2)) 1 (some (.lst true (some 4) (List.map bk ([r17] : List ak))))) 1 none) 2 (some (.lst false (some 4) (List.map bk r18)))) 2 none) 3 (some (.lst false (some 4) (List.map bk l19))))) (n' := 4) (fq (xs := r18) (ys := ([(ak.mk 5 1 y14 [])] : List ak)) (e := bk) hl19 rfl rfl rfl (fV (xs := ([(ak.mk 5 1 y14 [])] : List ak)) (e := bk) rfl)) rfl rfl ?_; refine bO [] [] (v := .loc 3 0 l19.length) rfl rfl rfl ?_; exact ce.nil' ⟨by decide, nr [0, 3]⟩
   obtain ⟨l20, hl20, h⟩ := aq h; refine dG ⟨tab [(2, bn a0), (3, fg a1), (5, cG r1.1), (7, .loc 0 0 l20.length), (21, cG r1.1), (22, vi (r1.1.length : Int)), (23, vi i3)], aj (il l20), 1⟩ ?_ ?_
   · refine q3 ?_; refine step (tP (ds := List.map bk ([(ak.mk 6 0 0 l19)] : List ak)) (gA (f := fun x => dm _ (az _ x)) (tO (gA iX (gA iX (gA iX (gA (BH (xs := l19) rfl rfl) nk))))) nk) rfl) ?_; refine step (fq (xs := l2) (ys := ([(ak.mk 6 0 0 l19)] : List ak)) (e := bk) hl20 rfl rfl rfl (tH (xs := ([(ak.mk 6 0 0 l19)] : List ak)) (e := bk) rfl rfl rfl)) ?_; refine qq ?_; exact nR [3]
   cases sj h; refine b7 (And.intro rfl rfl) ?_; refine step (cn (co hinv6 hgo5 hB4) rfl rfl) ?_; refine qq ?_; exact nR [0]
 · rintro i3 l2 hinv6 hgo5; have hc7 := dn hgo5; refine am ?_; refine qq ?_; refine nI ?_; refine aA ?_; refine aU rfl hc7 ?_; refine ca [(7, .loc 0 0 l2.length)] ?_; refine cf ?_; exact ⟨rfl, rfl⟩
 refine aH ⟨tab [(4, .loc 0 0 z21.length)], aj (il z21), 1⟩ ?_ ?_
 · refine q2 ?_; exact nR [0]
 have hh := bJ h; subst hh; refine aX ?_; exact bI (.inr rfl) (aK (v := .loc 0 0 z21.length) rfl rfl) (RV.loc (xs := z21) (e := bk) rfl rfl trivial)
theorem v7 {a0 : (List ak)} {r : ak} (h : lW a0 = some r) : PCall Try.prog 61 [eL (some 4) bk a0] (cb r) := by
 refine PCall.inW Cc ?_; refine aH ⟨tab [(0, cN a0), (2, .ptr 0 0 0)], aj [(0, fh)], 1⟩ ?_ ?_
 · refine qq ?_; exact nR [0]
 refine aA ?_; refine am ?_; refine qq ?_; refine step (bE (xs := a0) (e := bk) rfl) ?_; refine nT [(0, cN a0), (2, .ptr 0 0 0), (4, vi (a0.length : Int))] ?_; refine bx ?_; refine am ?_; refine q2 ?_; refine nI ?_; by_cases hc1 : ((a0.length : Int) == 0) = true
 · replace h := aQ hc1 h; refine aV rfl hc1 ?_; refine aH ⟨tab [(2, .ptr 0 0 0)], aj [(0, fh)], 1⟩ ?_ ?_
   · refine step (eS (ds := [.int .i64 0, .int .i64 0, .int .u16 0, eL (some 4) bk []]) rfl) ?_; refine qq ?_; exact nR [0]
   cases sj h; refine aX ?_; exact bI (.inr rfl) (fK (ds := [.int .i64 0, .int .i64 0, .int .u16 0, eL (some 4) bk []]) rfl rfl (show 4 ≤ 4 by decide) rfl rfl) (RV.d trivial)
 · replace h := aR hc1 h; refine aU rfl hc1 ?_; refine am ?_; refine q2 ?_; refine nI ?_; by_cases hc2 : ((a0.length : Int) == 1) = true
   · replace h := aQ hc2 h; refine aV rfl hc2 ?_; obtain ⟨x3, hx3, h⟩ := aq h; refine aH ⟨tab [(2, .ptr 0 0 0)], aj [(0, js x3)], 1⟩ ?_ ?_
     · refine qq ?_; refine step (gb (xs := a0) (e := bk) hx3 rfl rfl (eB _)) ?_; refine q2 ?_; exact nR [0]
     have hh := bJ h; subst hh; refine aX ?_; exact bI (.inr rfl) (fK (ds := [.int .i64 x3.Op, .int .i64 x3.F, .int .u16 x3.N, eL (some 4) bk x3.Kids]) rfl rfl (show 4 ≤ 4 by decide) rfl rfl) (RV.d trivial)
   · replace h := aR hc2 h; refine aU rfl hc2 ?_; refine ba ?_; refine aH ⟨tab [(2, .ptr 0 0 0)], aj [(0, .var [vi 7, vi 0, vh 0, cN a0])], 1⟩ ?_ ?_
     · refine qq ?_; refine step (eS (ds := [.int .i64 7, .int .i64 0, .int .u16 0, eL (some 4) bk a0]) rfl) ?_; refine qq ?_; exact nR [0]
     cases sj h; refine aX ?_; exact bI (.inr rfl) (fK (ds := [.int .i64 7, .int .i64 0, .int .u16 0, eL (some 4) bk a0]) rfl rfl (show 4 ≤ 4 by decide) rfl rfl) (RV.d trivial)
theorem Du {self : ak → Option Int} (hself : ∀ (a0 : ak) (r : Int), self a0 = some r → PCall Try.prog 62 [cb a0] (.int .i64 r)) {a0 : ak} {r : Int} (h : lX self a0 = some r) : PCall Try.prog 62 [cb a0] (.int .i64 r) := by
 refine PCall.inW Ce ?_; refine am ?_; refine q2 ?_; refine nO ?_; refine qq ?_; refine nI ?_; refine aA ?_; refine am ?_; refine q2 ?_; refine step (bE (xs := a0.Kids) (e := bk) rfl) ?_; refine qq ?_; refine nT [(3, vi 1), (7, cN a0.Kids), (8, vi (a0.Kids.length : Int)), (9, vi 0)] ?_; obtain ⟨z10, hl, h⟩ := aq h; refine bx ?_; refine fJ (cA (a0.Kids.length : Int)) (fun (i2 : Int) (qq : Int) => ⟨tab [(3, vi qq), (7, cN a0.Kids), (8, vi (a0.Kids.length : Int)), (9, vi i2)], aj [], 0⟩) 0 (fun (qq : Int) => ⟨tab [(3, vi qq)], aj [], 0⟩) bD cB hl (by unfold bD; omega) ?_ ?_ ?_
 · rintro i2 i1 xr7 hinv5 hgo4 h; have hc6 := dy hgo4; refine am ?_; refine qq ?_; refine nI ?_; refine cF 8 rfl fun hB3 => ?_; refine aA ?_; refine aV rfl hc6 ?_; refine ba ?_; refine aA ?_; refine bx ?_; obtain ⟨x8, hx8, h⟩ := aq h; refine aH ⟨tab [(3, vi i1), (5, .ptr 0 0 0), (7, cN a0.Kids), (8, vi (a0.Kids.length : Int)), (9, vi i2)], aj [(0, js x8)], 1⟩ ?_ ?_
   · refine step (gb (xs := a0.Kids) (e := bk) hx8 rfl rfl (eB _)) ?_; refine q3 ?_; exact nR [0]
   obtain ⟨r9, hr9, h⟩ := aq h; refine dG ⟨tab [(3, vi (IntKind.i64.wrap (i1 + r9))), (7, cN a0.Kids), (8, vi (a0.Kids.length : Int)), (9, vi i2)], aj [], 0⟩ ?_ ?_
   · refine qq ?_; refine step (dH (ds := [.int .i64 x8.Op, .int .i64 x8.F, .int .u16 x8.N, eL (some 4) bk x8.Kids]) rfl rfl (show 4 ≤ 4 by decide) rfl) ?_; refine bP (aM bh.nil') (hself _ _ hr9) ?_; refine q2 ?_; exact nR []
   cases sj h; refine b7 (And.intro rfl rfl) ?_; refine step (cn (co hinv5 hgo4 hB3) rfl rfl) ?_; refine qq ?_; exact nR []
 · rintro i2 i1 hinv5 hgo4; have hc6 := dn hgo4; refine am ?_; refine qq ?_; refine nI ?_; refine aA ?_; refine aU rfl hc6 ?_; refine ca [(3, vi i1)] ?_; refine cf ?_; exact ⟨rfl, rfl⟩
 refine aH ⟨tab [(2, vi z10)], aj [], 0⟩ ?_ ?_
 · refine q2 ?_; exact nR []
 cases sj h; refine aX ?_; exact bI (.inr rfl) (aK rfl rfl) (RV.d trivial)
theorem wa : ∀ (k : Nat) (a0 : ak) (r : Int), i4 k a0 = some r → PCall Try.prog 62 [cb a0] (.int .i64 r)
 | 0, _, _, h => by cases h
 | k + 1, _, _, h => Du (wa k) h
theorem Dv {a0 : ak} {r : Int} (h : p9 a0 = some r) : PCall Try.prog 62 [cb a0] (.int .i64 r) := wa cW _ _ h
theorem Dw {self : ak → Option Int} (hself : ∀ (a0 : ak) (r : Int), self a0 = some r → PCall Try.prog 63 [cb a0] (.int .i64 r)) {a0 : ak} {r : Int} (h : lY self a0 = some r) : PCall Try.prog 63 [cb a0] (.int .i64 r) := by
 refine PCall.inW Cg ?_; refine am ?_; refine q2 ?_; refine nO ?_; refine qq ?_; refine nI ?_; refine aA ?_; refine am ?_; refine q2 ?_; refine step (bE (xs := a0.Kids) (e := bk) rfl) ?_; refine qq ?_; refine nT [(3, vi 0), (7, cN a0.Kids), (8, vi (a0.Kids.length : Int)), (9, vi 0)] ?_; obtain ⟨z10, hl, h⟩ := aq h; refine bx ?_; refine fJ (cA (a0.Kids.length : Int)) (fun (i2 : Int) (qq : Int) => ⟨tab [(3, vi qq), (7, cN a0.Kids), (8, vi (a0.Kids.length : Int)), (9, vi i2)], aj [], 0⟩) 0 (fun (qq : Int) => ⟨tab [(3, vi qq)], aj [], 0⟩) bD cB hl (by unfold bD; omega) ?_ ?_ ?_
 · rintro i2 i1 xr7 hinv5 hgo4 h; have hc6 := dy hgo4; refine am ?_; refine qq ?_; refine nI ?_; refine cF 8 rfl fun hB3 => ?_; refine aA ?_; refine aV rfl hc6 ?_; refine ba ?_; refine aA ?_; refine bx ?_; obtain ⟨x8, hx8, h⟩ := aq h; refine aH ⟨tab [(3, vi i1), (5, .ptr 0 0 0), (7, cN a0.Kids), (8, vi (a0.Kids.length : Int)), (9, vi i2)], aj [(0, js x8)], 1⟩ ?_ ?_
   · refine step (gb (xs := a0.Kids) (e := bk) hx8 rfl rfl (eB _)) ?_; refine q3 ?_; exact nR [0]
   obtain ⟨r9, hr9, h⟩ := aq h; refine dG ⟨tab [(3, vi (fI i1 r9)), (7, cN a0.Kids), (8, vi (a0.Kids.length : Int)), (9, vi i2)], aj [], 0⟩ ?_ ?_
   · refine qq ?_; refine step (dH (ds := [.int .i64 x8.Op, .int .i64 x8.F, .int .u16 x8.N, eL (some 4) bk x8.Kids]) rfl rfl (show 4 ≤ 4 by decide) rfl) ?_; refine bP (aM bh.nil') (hself _ _ hr9) ?_; refine q2 ?_; exact nR []
   cases sj h; refine b7 (And.intro rfl rfl) ?_; refine step (cn (co hinv5 hgo4 hB3) rfl rfl) ?_; refine qq ?_; exact nR []
 · rintro i2 i1 hinv5 hgo4; have hc6 := dn hgo4; refine am ?_; refine qq ?_; refine nI ?_; refine aA ?_; refine aU rfl hc6 ?_; refine ca [(3, vi i1)] ?_; refine cf ?_; exact ⟨rfl, rfl⟩
 refine aH ⟨tab [(2, vi (IntKind.i64.wrap (z10 + 1)))], aj [], 0⟩ ?_ ?_
 · refine q3 ?_; exact nR []
 cases sj h; refine aX ?_; exact bI (.inr rfl) (aK rfl rfl) (RV.d trivial)
theorem wc : ∀ (k : Nat) (a0 : ak) (r : Int), ja k a0 = some r → PCall Try.prog 63 [cb a0] (.int .i64 r)
 | 0, _, _, h => by cases h
 | k + 1, _, _, h => Dw (wc k) h
theorem Dx {a0 : ak} {r : Int} (h : qb a0 = some r) : PCall Try.prog 63 [cb a0] (.int .i64 r) := wc cW _ _ h
theorem wd {a0 : api_Topo} {a1 : (List api_Want)} {r : (ak × Int)} (h : lZ a0 a1 = some r) : PCall Try.prog 30 [eapi_Topo a0, eL (some 4) eapi_Want a1] (.tup [cb r.1, .int .i64 r.2]) := by
 refine PCall.inW Ci ?_; refine aH ⟨tab [(1, c5 a1), (2, bn a0), (4, .ptr 0 0 0)], aj [(0, fh)], 1⟩ ?_ ?_
 · refine q3 ?_; exact nR [0]
 refine aA ?_; obtain ⟨r1, hr1, h⟩ := aq h; refine am ?_; refine qq ?_; refine bP (aM bh.nil') (C5 hr1) ?_; refine qq ?_; refine nO ?_; refine q2 ?_; refine nI ?_; by_cases hc2 : (r1 != 0) = true
 · replace h := aQ hc2 h; refine aV rfl hc2 ?_; refine aH ⟨tab [(4, .ptr 0 0 0), (5, vi r1)], aj [(0, fh)], 1⟩ ?_ ?_
   · refine step (eS (ds := [.int .i64 0, .int .i64 0, .int .u16 0, eL (some 4) bk []]) rfl) ?_; refine q3 ?_; exact nR [0]
   cases sj h; refine aX ?_; exact cd (.inr rfl) (fK (ds := [.int .i64 0, .int .i64 0, .int .u16 0, eL (some 4) bk []]) rfl rfl (show 4 ≤ 4 by decide) rfl (aK rfl rfl)) (RV.d (RV.d trivial))
 · replace h := aR hc2 h; refine aU rfl hc2 ?_; refine ba ?_; refine am ?_; refine q2 ?_; refine nI ?_; refine aA ?_; refine am ?_; refine qq ?_; refine step (bE (xs := a1) (e := eapi_Want) rfl) ?_; refine qq ?_; refine nI ?_; obtain ⟨q35, hl, h⟩ := aq h; refine dX (s0 := ⟨tab [(2, bn a0), (4, .ptr 0 0 0), (7, .loc 1 0 (([] : List ak).length)), (8, .loc 2 0 (([] : List ak).length)), (19, c5 a1), (20, vi (a1.length : Int)), (21, vi 0)], aj [(0, fh), (1, .lst false (some 4) (List.map bk ([] : List ak))), (2, .lst false (some 4) (List.map bk ([] : List ak)))], 3⟩) (bN.trans (s2 := ⟨tab [(2, bn a0), (4, .ptr 0 0 0), (7, .loc 1 0 (([] : List ak).length)), (8, .loc 2 0 (([] : List ak).length)), (19, c5 a1), (20, vi (a1.length : Int)), (21, vi 0)], aj [(0, fh), (1, .lst false (some 4) (List.map bk ([] : List ak))), (2, .lst false (some 4) (List.map bk ([] : List ak)))], 3⟩) (kE 7 false (some 4) rfl) (bN.trans (s2 := ⟨tab [(2, bn a0), (4, .ptr 0 0 0), (7, .loc 1 0 (([] : List ak).length)), (8, .loc 2 0 (([] : List ak).length)), (19, c5 a1), (20, vi (a1.length : Int)), (21, vi 0)], aj [(0, fh), (1, .lst false (some 4) (List.map bk ([] : List ak))), (2, .lst false (some 4) (List.map bk ([] : List ak)))], 3⟩) (kE 8 false (some 4) rfl) (nr [0, 1, 2]))) ?_; refine bx ?_; refine dO (cA (a1.length : Int)) (fun (i5 : Int) (qq : ((List ak) × (List ak))) => ⟨tab [(2, bn a0), (4, .ptr 0 0 0), (7, .loc 1 0 qq.1.length), (8, .loc 2 0 qq.2.length), (19, c5 a1), (20, vi (a1.length : Int)), (21, vi i5)], aj (oR qq.1 qq.2), 3⟩) 0 (fun (qq : ((List ak) × (List ak))) => ⟨tab [(4, .ptr 0 0 0), (7, .loc 1 0 qq.1.length), (8, .loc 2 0 qq.2.length)], aj (oR qq.1 qq.2), 3⟩) bD cB (r := r) hl (by unfold bD; omega) ?_ ?_ ?_ ?_
   · rintro i5 ⟨l3, l4⟩ xr10 hinv8 hgo7 h; have hc9 := dy hgo7; refine am ?_; refine qq ?_; refine nI ?_; refine cF 20 rfl fun hB6 => ?_; refine aA ?_; refine aV rfl hc9 ?_; refine ba ?_; obtain ⟨q21, hv, h⟩ := aq h; refine m7 (fun (qq : ((List ak) × (List ak))) => ⟨tab [(2, bn a0), (4, .ptr 0 0 0), (7, .loc 1 0 qq.1.length), (8, .loc 2 0 qq.2.length), (19, c5 a1), (20, vi (a1.length : Int)), (21, vi i5)], aj (oR qq.1 qq.2), 3⟩) (xv := q21) (r := xr10) ?_ ?_ ?_
     · replace h := hv; refine bx ?_; obtain ⟨x11, hx11, h⟩ := aq h; refine aH ⟨tab [(2, bn a0), (4, .ptr 0 0 0), (7, .loc 1 0 l3.length), (8, .loc 2 0 l4.length), (10, .ptr 3 0 0), (19, c5 a1), (20, vi (a1.length : Int)), (21, vi i5)], aj [(0, fh), (1, .lst false (some 4) (List.map bk l3)), (2, .lst false (some 4) (List.map bk l4)), (3, rM x11)], 4⟩ ?_ ?_
       · refine step (bU (xs := a1) (e := eapi_Want) hx11 rfl rfl) ?_; refine q3 ?_; exact nR [0, 1, 2, 3]
       refine aA ?_; obtain ⟨r12, hr12, h⟩ := aq h; refine am ?_; refine qq ?_; refine step (dH (ds := [.int .i64 x11.From, .int .i64 x11.To, eL (some 2) eapi_Pair x11.Match, .bool x11.Ban]) rfl rfl (show 4 ≤ 4 by decide) rfl) ?_; refine bP (aM (aM bh.nil')) (Dq hr12) ?_; refine qq ?_; refine nO ?_; refine q2 ?_; refine nI ?_; by_cases hc13 : (r12 != 0) = true
       · replace h := aQ hc13 h; refine aV rfl hc13 ?_; refine aH ⟨tab [(4, .ptr 0 0 0), (5, vi r12)], aj [(0, fh)], 1⟩ ?_ ?_
         · refine step (eS (ds := [.int .i64 0, .int .i64 0, .int .u16 0, eL (some 4) bk []]) rfl) ?_; refine q3 ?_; exact nR [0]
         obtain ⟨r14, kr14, hr⟩ := cR (o := some (Br.ret ((ak.mk 0 0 0 []), r12))) (g := Sum.inr) h; subst hr; have h := kr14; obtain ⟨r15, kr15, hr⟩ := cR (o := some ((ak.mk 0 0 0 []), r12)) (g := Br.ret) h; subst hr; have h := kr15; cases sj h; refine aX ?_; refine And.intro (fun hn => nomatch hn) ?_; intro hq; have hq := hq.symm; subst hq; refine And.intro (fun hn => nomatch hn) ?_; intro hq; have hq := hq.symm; subst hq; exact cd (.inr rfl) (fK (ds := [.int .i64 0, .int .i64 0, .int .u16 0, eL (some 4) bk []]) rfl rfl (show 4 ≤ 4 by decide) rfl (aK rfl rfl)) (RV.d (RV.d trivial))
       · replace h := aR hc13 h; refine aU rfl hc13 ?_; refine ba ?_; refine aA ?_; refine am ?_; refine q2 ?_; refine nI ?_; by_cases hc14 : x11.Ban = true
         · replace h := aQ hc14 h; refine aV rfl hc14 ?_; obtain ⟨r15, hr15, h⟩ := aq h; obtain ⟨l16, hl16, h⟩ := aq h; refine aH ⟨tab [(2, bn a0), (4, .ptr 0 0 0), (7, .loc 1 0 l3.length), (8, .loc 2 0 l16.length), (19, c5 a1), (20, vi (a1.length : Int)), (21, vi i5)], aj (oR l3 l16), 3⟩ ?_ ?_
           · refine qq ?_; refine step (dH (ds := [.int .i64 x11.From, .int .i64 x11.To, eL (some 2) eapi_Pair x11.Match, .bool x11.Ban]) rfl rfl (show 4 ≤ 4 by decide) rfl) ?_; refine lH (v := cN r15) (σ' := _) (n' := _) (Bj (BF [eapi_Want x11] (v6 hr15) (by simp)) (aM (aM bh.nil'))) (Nat.le_refl _) ?_; refine step (v := vs1 (ak.mk 6 0 0 r15)) (eS (ds := [.int .i64 6, .int .i64 0, .int .u16 0, eL (some 4) bk r15]) rfl) ?_; refine step (v := cN ([(ak.mk 6 0 0 r15)] : List ak)) (iW rfl (by simp [eL, eB])) ?_; refine step (fq (xs := l4) (ys := ([(ak.mk 6 0 0 r15)] : List ak)) (e := bk) hl16 rfl rfl rfl (fV (xs := ([(ak.mk 6 0 0 r15)] : List ak)) (e := bk) rfl)) ?_; refine qq ?_; exact nR [0, 1, 4]
           cases sj h; refine ca [(2, bn a0), (4, .ptr 0 0 0), (7, .loc 1 0 l3.length), (8, .loc 2 0 l16.length), (19, c5 a1), (20, vi (a1.length : Int)), (21, vi i5)] ?_; refine cf ?_; exact ⟨rfl, rfl⟩
         · replace h := aR hc14 h; refine aU rfl hc14 ?_; refine ba ?_; obtain ⟨r17, hr17, h⟩ := aq h; obtain ⟨l18, hl18, h⟩ := aq h; cases sj h; refine b7 (And.intro rfl rfl) ?_; refine q2 ?_; refine step (dH (ds := [.int .i64 x11.From, .int .i64 x11.To, eL (some 2) eapi_Pair x11.Match, .bool x11.Ban]) rfl rfl (show 4 ≤ 4 by decide) rfl) ?_; refine bP (aM (aM bh.nil')) (Dt hr17) ?_; refine step (fq (xs := l3) (ys := r17) (e := bk) hl18 rfl rfl rfl (fV (xs := r17) (e := bk) rfl)) ?_; refine qq ?_; exact nR [0, 4, 2]
     · intro r' hq; subst hq; exact bJ h
     rintro ⟨l19, l20⟩ rfl; cases sj h; refine b7 (And.intro rfl rfl) ?_; refine step (cn (co hinv8 hgo7 hB6) rfl rfl) ?_; refine qq ?_; exact nR [0, 1, 2]
   · rintro i5 ⟨l3, l4⟩ hinv8 hgo7; have hc9 := dn hgo7; refine am ?_; refine qq ?_; refine nI ?_; refine aA ?_; refine aU rfl hc9 ?_; refine ca [(4, .ptr 0 0 0), (7, .loc 1 0 l3.length), (8, .loc 2 0 l4.length)] ?_; refine cf ?_; exact ⟨rfl, rfl⟩
   · intro r' hq; subst hq; exact bJ h
   rintro ⟨z22, z23⟩ rfl; obtain ⟨r24, hr24, h⟩ := aq h; refine aH ⟨tab [(4, .ptr 0 0 0), (8, .loc 1 0 z23.length), (12, .ptr 2 0 0)], aj [(0, fh), (1, .lst false (some 4) (List.map bk z23)), (2, js r24)], 3⟩ ?_ ?_
   · refine qq ?_; refine bP (tN (xs := z22) (e := bk) rfl rfl bh.nil') (v7 hr24) ?_; refine q2 ?_; exact nR [0, 2, 3]
   obtain ⟨y27, hv, h⟩ := aq h; refine gz ⟨tab [(4, .ptr 0 0 0), (12, .ptr 1 0 0)], aj [(0, fh), (1, js y27)], 2⟩ ?_ ?_
   · replace h := hv; refine am ?_; refine q3 ?_; refine nI ?_; by_cases hc25 : decide ((z23.length : Int) > 0) = true
     · replace h := aQ hc25 h; refine aV rfl hc25 ?_; obtain ⟨r26, hr26, h⟩ := aq h; cases sj h; refine dG ⟨tab [(4, .ptr 0 0 0), (12, .ptr 1 0 0)], aj [(0, fh), (1, .var [vi ((ak.mk 6 0 0 ([(ak.mk 4 0 0 ([r26] : List ak)), r24] : List ak)).Op), vi ((ak.mk 6 0 0 ([(ak.mk 4 0 0 ([r26] : List ak)), r24] : List ak)).F), vh ((ak.mk 6 0 0 ([(ak.mk 4 0 0 ([r26] : List ak)), r24] : List ak)).N), cN ((ak.mk 6 0 0 ([(ak.mk 4 0 0 ([r26] : List ak)), r24] : List ak)).Kids)])], 2⟩ ?_ ?_
       · refine qq ?_; refine bP (tN (xs := z23) (e := bk) rfl rfl bh.nil') (v7 hr26) ?_; refine step (v := cN ([r26] : List ak)) (iW rfl (by simp [eL, eB])) ?_; refine step (v := vs1 (ak.mk 4 0 0 ([r26] : List ak))) (eS (ds := [.int .i64 4, .int .i64 0, .int .u16 0, eL (some 4) bk ([r26] : List ak)]) rfl) ?_; refine step (v := vs1 r24) (dH (ds := [.int .i64 r24.Op, .int .i64 r24.F, .int .u16 r24.N, eL (some 4) bk r24.Kids]) rfl rfl (show 4 ≤ 4 by decide) rfl) ?_; refine step (v := cN ([(ak.mk 4 0 0 ([r26] : List ak)), r24] : List ak)) (iW rfl (by simp [eL, eB])) ?_; refine step (eS (ds := [.int .i64 6, .int .i64 0, .int .u16 0, eL (some 4) bk ([(ak.mk 4 0 0 ([r26] : List ak)), r24] : List ak)]) rfl) ?_; refine qq ?_; exact nR [0, 2]
       exact ⟨rfl, rfl⟩
     · replace h := aR hc25 h; refine aU rfl hc25 ?_; cases sj h; refine dX (s0 := ⟨tab [(4, .ptr 0 0 0), (12, .ptr 1 0 0)], aj [(0, fh), (1, js r24)], 2⟩) (nr [0, 2]) ?_; refine ba ?_; exact ⟨rfl, rfl⟩
   refine aA ?_; obtain ⟨r29, hr29, h⟩ := aq h; obtain ⟨y32, hv, h⟩ := aq h; refine aH ⟨tab [(4, .ptr 0 0 0), (12, .ptr 1 0 0), (65, vb y32)], aj [(0, fh), (1, js y27)], 2⟩ ?_ ?_
   · refine step (dH (ds := [.int .i64 y27.Op, .int .i64 y27.F, .int .u16 y27.N, eL (some 4) bk y27.Kids]) rfl rfl (show 4 ≤ 4 by decide) rfl) ?_; refine bP (aM bh.nil') (Dv hr29) ?_; refine q2 ?_; by_cases hg30 : decide (r29 > 300) = true
     · replace hv := aQ hg30 hv; (iterate 3 refine qX (decide (r29 > 300)) (by rw [hg30]; decide) ?_); refine step (aZ rfl hg30 rfl) ?_; cases sj hv; exact nR [0, 1]
     · replace hv := aR hg30 hv; obtain ⟨r31, hr31, hv⟩ := aq hv; refine qG _ (bf hg30) ?_; refine step (dH (ds := [.int .i64 y27.Op, .int .i64 y27.F, .int .u16 y27.N, eL (some 4) bk y27.Kids]) rfl rfl (show 4 ≤ 4 by decide) rfl) ?_; refine qG _ (bf hg30) ?_; refine bP (aM bh.nil') (Dx hr31) ?_; refine gq (bf hg30) ?_; refine step (bm rfl hg30 rfl) ?_; cases sj hv; exact nR [0, 1]
   by_cases hc34 : y32 = true
   · replace h := aQ hc34 h; refine aV rfl hc34 ?_; refine aH ⟨tab [(4, .ptr 0 0 0), (5, vi 2)], aj [(0, fh)], 1⟩ ?_ ?_
     · refine step (eS (ds := [.int .i64 0, .int .i64 0, .int .u16 0, eL (some 4) bk []]) rfl) ?_; refine q2 ?_; exact nR [0]
     cases sj h; refine aX ?_; exact cd (.inr rfl) (fK (ds := [.int .i64 0, .int .i64 0, .int .u16 0, eL (some 4) bk []]) rfl rfl (show 4 ≤ 4 by decide) rfl (aK rfl rfl)) (RV.d (RV.d trivial))
   · replace h := aR hc34 h; refine aU rfl hc34 ?_; refine ba ?_; refine aH ⟨tab [(4, .ptr 0 0 0), (5, vi 0)], aj [(0, js y27)], 1⟩ ?_ ?_
     · refine step (dH (ds := [.int .i64 y27.Op, .int .i64 y27.F, .int .u16 y27.N, eL (some 4) bk y27.Kids]) rfl rfl (show 4 ≤ 4 by decide) rfl) ?_; refine q2 ?_; exact nR [0]
     cases sj h; refine aX ?_; exact cd (.inr rfl) (fK (ds := [.int .i64 y27.Op, .int .i64 y27.F, .int .u16 y27.N, eL (some 4) bk y27.Kids]) rfl rfl (show 4 ≤ 4 by decide) rfl (aK rfl rfl)) (RV.d (RV.d trivial))
theorem Dy {a0 : Int} {r : Bool} (h : qe a0 = some r) : PCall Try.prog 100 [.int .i64 a0] (.bool r) := by
 refine PCall.inW Cj ?_; refine am ?_; refine qq ?_; refine nI ?_; refine aH ⟨tab [(2, vb ((decide (a0 ≥ 0)) && (decide (a0 < 8))))], aj [], 0⟩ ?_ ?_
 · refine q3 ?_; by_cases hg1 : decide (a0 ≥ 0) = true
   · refine gq hg1 ?_; refine gq hg1 ?_; refine step (aZ rfl hg1 rfl) ?_; refine qq ?_; exact aL.nil' (nm [] ⟨.eq (by first | (simp [hg1]; done) | (simp_all; done) | grind), trivial⟩ trivial)
   · (iterate 2 refine gX hg1 ?_); refine step (bm rfl hg1 rfl) ?_; refine qq ?_; exact aL.nil' (nm [] ⟨.eq (by first | (simp [hg1]; done) | (simp_all; done) | grind), trivial⟩ trivial)
 cases sj h; refine aX ?_; exact bI (.inr rfl) (aK rfl rfl) (RV.d trivial)
theorem Dz {a0 : api_Pair} {a1 : (A8 Int)} {r : Bool} (h : qf a0 a1 = some r) : PCall Try.prog 106 [eapi_Pair a0, .cptr (some 8) (eA8 (D.int .u16) a1) 0] (.bool r) := by
 refine PCall.inW Cm ?_; refine am ?_; refine q2 ?_; refine nI ?_; obtain ⟨r1, hr1, h⟩ := aq h; obtain ⟨y4, hv, h⟩ := aq h; refine aH ⟨tab [(3, vb y4)], aj [], 0⟩ ?_ ?_
 · refine q2 ?_; refine bP (aM bh.nil') (Dy hr1) ?_; refine q2 ?_; by_cases hg2 : (!r1) = true
   · replace hv := aQ hg2 hv; (iterate 7 refine qX (!r1) (by rw [hg2]; decide) ?_); refine step (aZ rfl hg2 rfl) ?_; refine qq ?_; cases sj hv; exact nR []
   · replace hv := aR hg2 hv; obtain ⟨x3, hx3, hv⟩ := aq hv; refine gq (bf hg2) ?_; refine gq (bf hg2) ?_; refine qG _ (bf hg2) ?_; refine step (kF (xs := a1.l) hx3 rfl rfl rfl) ?_; refine qG _ (bf hg2) ?_; refine step (yO rfl (kD (e := (D.int .u16)) (xs := a1.l) (pre := []) (post := []) hx3 rfl (by decide))) ?_; refine gq (bf hg2) ?_; refine gq (bf hg2) ?_; refine gq (bf hg2) ?_; refine step (bm rfl hg2 rfl) ?_; refine qq ?_; cases sj hv; exact nR []
 cases sj h; refine aX ?_; exact bI (.inr rfl) (aK rfl rfl) (RV.d trivial)
theorem DA {a0 : (List api_Pair)} {a1 : api_Pair → Option Bool} {g_a1 : D} (hf_a1 : pO Try.prog g_a1 eapi_Pair D.bool a1) {r : Int} (h : qh a0 a1 = some r) : PCall Try.prog 120 [eL (some 2) eapi_Pair a0, g_a1] (.int .i64 r) := by
 obtain ⟨fn_a1, cap_a1, rfl, hc_a1⟩ := hf_a1; refine PCall.inW Co ?_; refine am ?_; refine qq ?_; refine nI ?_; refine aA ?_; refine am ?_; refine qq ?_; refine step (bE (xs := a0) (e := eapi_Pair) rfl) ?_; refine qq ?_; refine nT [(0, ff a0), (1, .d (.func fn_a1 cap_a1)), (7, vi (a0.length : Int)), (8, vi 0)] ?_; obtain ⟨q10, hl, h⟩ := aq h; refine bx ?_; refine dO (cA (a0.length : Int)) (fun (i1 : Int) (qq : Unit) => ⟨tab [(0, ff a0), (1, .d (.func fn_a1 cap_a1)), (7, vi (a0.length : Int)), (8, vi i1)], aj [], 0⟩) 0 (fun (qq : Unit) => ⟨tab [], aj [], 0⟩) bD cB (r := r) hl (by unfold bD; omega) ?_ ?_ ?_ ?_
 · rintro i1 ⟨⟩ xr6 hinv4 hgo3 h; have hc5 := dy hgo3; refine am ?_; refine qq ?_; refine nI ?_; refine cF 7 rfl fun hB2 => ?_; refine aA ?_; refine aV rfl hc5 ?_; refine ba ?_; refine aA ?_; refine bx ?_; refine am ?_; refine q2 ?_; refine nI ?_; obtain ⟨x7, hx7, h⟩ := aq h; obtain ⟨x8, hx8, h⟩ := aq h; refine am ?_; refine q3 ?_; refine step (bU (xs := a0) (e := eapi_Pair) hx7 rfl rfl) ?_; refine qq ?_; refine mY (r := .bool x8) rfl (aM bh.nil') (hc_a1 _ _ hx8) ?_; refine nI ?_; by_cases hc9 : x8 = true
   · replace h := aQ hc9 h; refine aV rfl hc9 ?_; refine am ?_; refine q2 ?_; refine nI ?_; obtain ⟨r10, kr10, hr⟩ := cR (o := some i1) (g := Br.ret) h; subst hr; have h := kr10; cases sj h; refine aX ?_; refine And.intro (fun hn => nomatch hn) ?_; intro hq; have hq := hq.symm; subst hq; exact bI (.inr rfl) (aK rfl rfl) (RV.d trivial)
   · replace h := aR hc9 h; refine aU rfl hc9 ?_; refine ba ?_; cases sj h; refine b7 (And.intro rfl rfl) ?_; refine step (cn (co hinv4 hgo3 hB2) rfl rfl) ?_; refine qq ?_; exact nR []
 · rintro i1 ⟨⟩ hinv4 hgo3; have hc5 := dn hgo3; refine am ?_; refine qq ?_; refine nI ?_; refine aA ?_; refine aU rfl hc5 ?_; refine ca [] ?_; refine cf ?_; exact ⟨rfl, rfl⟩
 · intro r' hq; subst hq; exact bJ h
 rintro ⟨⟩ rfl; refine aH ⟨tab [(4, vi (-1))], aj [], 0⟩ ?_ ?_
 · refine qq ?_; exact nR []
 cases sj h; refine aX ?_; exact bI (.inr rfl) (aK rfl rfl) (RV.d trivial)
theorem DB {a0 : (List api_Pair)} {a1 : api_Pair → Option Bool} {g_a1 : D} (hf_a1 : pO Try.prog g_a1 eapi_Pair D.bool a1) {r : Bool} (h : nG a0 a1 = some r) : PCall Try.prog 105 [eL (some 2) eapi_Pair a0, g_a1] (.bool r) := by
 obtain ⟨fn_a1, cap_a1, rfl, hc_a1⟩ := hf_a1; refine PCall.inW Cp ?_; refine am ?_; refine qq ?_; refine nI ?_; obtain ⟨r1, hr1, h⟩ := aq h; refine am ?_; refine q2 ?_; refine bP (aM (aM bh.nil')) (DA ⟨_, _, rfl, hc_a1⟩ hr1) ?_; refine q2 ?_; refine nI ?_; cases sj h; refine aX ?_; exact bI (.inr rfl) (aK rfl rfl) (RV.d trivial)
theorem DC {a0 : (A8 Int)} {a1 : (List api_Pair)} {r : Bool} (h : nH a0 a1 = some r) : PCall Try.prog 90 [eA8 (D.int .u16) a0, eL (some 2) eapi_Pair a1] (.bool r) := by
 refine PCall.inW Cq ?_; refine am ?_; refine q2 ?_; refine nI ?_; obtain ⟨r1, hr1, h⟩ := aq h; refine am ?_; refine q2 ?_; refine bP (aM (aM bh.nil')) (DB ⟨106, [.cptr (some 8) (eA8 (D.int .u16) a0) 0], rfl, fun _ _ h => Dz h⟩ hr1) ?_; refine q2 ?_; refine nI ?_; cases sj h; refine aX ?_; exact bI (.inr rfl) (aK rfl rfl) (RV.d trivial)
theorem DD {a0 : api_Want} {a1 : Int} {a2 : (A8 Int)} {r : Bool} (h : nJ a0 a1 a2 = some r) : PCall Try.prog 64 [eapi_Want a0, .int .i64 a1, eA8 (D.int .u16) a2] (.bool r) := by
 refine PCall.inW Cr ?_; refine am ?_; refine q3 ?_; refine nI ?_; obtain ⟨y5, hv, h⟩ := aq h; refine aH ⟨tab [(6, vb y5)], aj [], 0⟩ ?_ ?_
 · refine q4 ?_; refine qq ?_; by_cases hg1 : (a0.From == a1) = true
   · replace hv := aQ hg1 hv; refine gq hg1 ?_; refine gq hg1 ?_; refine gq hg1 ?_; refine gq hg1 ?_; refine gq hg1 ?_; refine gq hg1 ?_; refine gq hg1 ?_; refine step (aZ rfl hg1 rfl) ?_; refine qq ?_; by_cases hg2 : ((IntKind.i64.wrap ((IntKind.i64.wrap a2.a2) - 1)) == a0.From) = true
     · replace hv := aQ hg2 hv; refine gq hg2 ?_; refine gq hg2 ?_; refine gq hg2 ?_; refine gq hg2 ?_; refine gq hg2 ?_; refine gq hg2 ?_; refine gq hg2 ?_; refine step (aZ rfl hg2 rfl) ?_; refine qq ?_; by_cases hg3 : ((IntKind.i64.wrap ((IntKind.i64.wrap a2.a3) - 1)) == a0.To) = true
       · replace hv := aQ hg3 hv; obtain ⟨r4, hr4, hv⟩ := aq hv; refine gq hg3 ?_; refine gq hg3 ?_; refine gq hg3 ?_; refine qG _ hg3 ?_; refine bP (aM (aM bh.nil')) (DC hr4) ?_; refine step (aZ rfl hg3 rfl) ?_; refine qq ?_; cases sj hv; exact nR []
       · replace hv := aR hg3 hv; (iterate 4 refine gX hg3 ?_); refine step (bm rfl hg3 rfl) ?_; refine qq ?_; cases sj hv; exact nR []
     · replace hv := aR hg2 hv; (iterate 7 refine gX hg2 ?_); refine step (bm rfl hg2 rfl) ?_; refine qq ?_; (iterate 4 refine qX false (by decide) ?_); refine step (bm rfl (by decide) rfl) ?_; refine qq ?_; cases sj hv; exact nR []
   · replace hv := aR hg1 hv; (iterate 7 refine gX hg1 ?_); refine step (bm rfl hg1 rfl) ?_; refine qq ?_; (iterate 7 refine qX false (by decide) ?_); refine step (bm rfl (by decide) rfl) ?_; refine qq ?_; (iterate 4 refine qX false (by decide) ?_); refine step (bm rfl (by decide) rfl) ?_; refine qq ?_; cases sj hv; exact nR []
 cases sj h; refine aX ?_; exact bI (.inr rfl) (aK rfl rfl) (RV.d trivial)
end Go.AM
