import Derived.Test.YtnnkfanmokeiaaaRtE
set_option linter.unusedVariables false
set_option linter.unusedSimpArgs false
namespace Go.AM
open Go Go.RowKit Go.Proofs
attribute [local irreducible] aO cu
set_option maxHeartbeats 2000000
theorem Dk {a0 : List api_Port} {r : List api_Port} (h : lW a0 = some r) : dg Try.prog 84 [.d (.vec (some 2) (List.map eapi_Port a0))] (ai []) 0 (.loc 0 0 r.length) (ai (mF r)) 1 := by
 cases a0 with
 | nil =>
  refine dg.empty ?_ ?_
  ·
   have h : some ([] : List api_Port) = some r := by simpa [lW, c6] using h
   refine dg.inW rM ?_
   refine d7 (s0 := ⟨tab [(0, .d (.nils))], ai [], 0⟩) (nr []) ?_
   refine al ?_
   refine qq ?_
   refine nI ?_
   refine aB ?_
   refine al ?_
   iterate 2 refine qq ?_
   refine nI ?_
   refine aR rfl rfl ?_
   refine al ?_
   refine qq ?_
   refine nI ?_
   cases sj h
   refine d7 (s0 := ⟨tab [(2, .loc 0 0 (([] : List api_Port).length))], ai (mF ([] : List api_Port)), 1⟩) (bP.trans (s2 := ⟨tab [(2, .loc 0 0 (([] : List api_Port).length))], ai (mF ([] : List api_Port)), 1⟩) (kJ 2 true (some 2) rfl) (nr [0])) ?_
   refine aZ ?_
   exact ⟨.inr rfl, _, rfl, rfl, fL.sub ⟨rfl, trivial⟩, rfl⟩
  ·
   refine dg.inW rM ?_
   refine d7 (s0 := ⟨tab [(0, .mapr 0)], ai [], 0⟩) (nm [] ⟨.mp _, trivial⟩ trivial) ?_
   refine al ?_
   refine qq ?_
   refine nI ?_
   refine aB ?_
   refine aI ⟨tab [(0, oR ([] : List api_Port)), (4, vb false)], ai [], 0⟩ ?_ ?_
   ·
    iterate 2 refine qq ?_
    exact aO.nil' (nm [] ⟨.nne _ _, .d _, trivial⟩ trivial)
   refine aQ rfl (by decide) ?_
   refine be ?_
   obtain ⟨l1, hl1, h⟩ := ap h
   refine aI ⟨tab [(2, .loc 0 0 l1.length)], ai (mF l1), 1⟩ ?_ ?_
   ·
    refine qq ?_
    refine qq ?_
    refine step (eY (xs := ([] : List api_Port)) (ys := ([] : List api_Port)) (e := eapi_Port) hl1 rfl rfl rfl (fB (xs := ([] : List api_Port)) (e := eapi_Port) rfl)) ?_
    refine qq ?_
    exact nR [1]
   cases sj h
   refine aZ ?_
   exact ⟨.inr rfl, _, rfl, rfl, fL.sub ⟨rfl, trivial⟩, rfl⟩
 | cons x xs =>
  refine dg.inW rM ?_
  refine d7 (s0 := ⟨tab [(0, oR (x :: xs))], ai [], 0⟩) (nr []) ?_
  refine al ?_
  refine qq ?_
  refine nI ?_
  refine aB ?_
  refine al ?_
  iterate 2 refine qq ?_
  refine nI ?_
  refine aQ rfl (by decide) ?_
  refine be ?_
  obtain ⟨l1, hl1, h⟩ := ap h
  refine aI ⟨tab [(2, .loc 0 0 l1.length)], ai (mF l1), 1⟩ ?_ ?_
  ·
   refine qq ?_
   refine qq ?_
   refine step (eY (xs := ([] : List api_Port)) (ys := (x :: xs)) (e := eapi_Port) hl1 rfl rfl rfl (fB (xs := (x :: xs)) (e := eapi_Port) rfl)) ?_
   refine qq ?_
   exact nR [1]
  cases sj h
  refine aZ ?_
  exact ⟨.inr rfl, _, rfl, rfl, fL.sub ⟨rfl, trivial⟩, rfl⟩
theorem Dl {a0 : api_Topo} {r : Int} (h : nz a0 = some r) : PCall Try.prog 57 [eapi_Topo a0] (.int .i64 r) := by
 refine PCall.inW BW ?_; refine al ?_; refine q2 ?_; refine nI ?_; refine aB ?_; refine aI ⟨tab [(1, bn a0), (27, vb ((decide ((a0.Switches.length : Int) > 12)) || ((decide ((a0.Links.length : Int) > 24)) || (decide ((a0.Hosts.length : Int) > 24)))))], ai [], 0⟩ ?_ ?_
 · refine q2 ?_; refine step (bF (xs := a0.Switches) (e := (D.int .u16)) rfl) ?_; refine q2 ?_; by_cases hg1 : decide ((a0.Switches.length : Int) > 12) = true
   · (iterate 4 refine qX (decide ((a0.Switches.length : Int) > 12)) (by rw [hg1]; decide) ?_); refine step (bp rfl hg1 rfl) ?_; refine qq ?_; (iterate 4 refine qX true (by decide) ?_); refine step (bp rfl rfl rfl) ?_; exact aO.nil' (nm [] ⟨.d _, .eq (by first | (simp [hg1]; done) | (simp_all; done) | grind), trivial⟩ trivial)
   · refine gq (bf hg1) ?_; refine gq (bf hg1) ?_; refine qG _ (bf hg1) ?_; refine step (bF (xs := a0.Links) (e := (eA2 eapi_Port)) rfl) ?_; refine gq (bf hg1) ?_; refine step (bv rfl hg1 rfl) ?_; refine qq ?_; by_cases hg2 : decide ((a0.Links.length : Int) > 24) = true
     · (iterate 4 refine qX (decide ((a0.Links.length : Int) > 24)) (by rw [hg2]; decide) ?_); refine step (bp rfl hg2 rfl) ?_; exact aO.nil' (nm [] ⟨.d _, .eq (by first | (simp [hg1, hg2]; done) | (simp_all; done) | grind), trivial⟩ trivial)
     · refine gq (bf hg2) ?_; refine gq (bf hg2) ?_; refine qG _ (bf hg2) ?_; refine step (bF (xs := a0.Hosts) (e := eapi_Port) rfl) ?_; refine gq (bf hg2) ?_; refine step (bv rfl hg2 rfl) ?_; exact aO.nil' (nm [] ⟨.d _, .eq (by first | (simp [hg1, hg2]; done) | (simp_all; done) | grind), trivial⟩ trivial)
 by_cases hc3 : ((decide ((a0.Switches.length : Int) > 12)) || ((decide ((a0.Links.length : Int) > 24)) || (decide ((a0.Hosts.length : Int) > 24)))) = true
 · replace h := aW hc3 h; refine aR rfl hc3 ?_; refine al ?_; refine qq ?_; refine nI ?_; cases sj h; refine aZ ?_; exact bH (.inr rfl) (aL rfl rfl) (RV.d trivial)
 · replace h := aX hc3 h; refine aQ rfl hc3 ?_; refine be ?_; refine aI ⟨tab [(1, bn a0), (3, .mref 0)], ai [(0, .mp (eM (D.int .u16) D.bool ([] : List (Int × Bool))))], 1⟩ ?_ ?_
   · refine q2 ?_; exact nR [0]
   refine aB ?_; refine al ?_; refine q2 ?_; refine step (bF (xs := a0.Switches) (e := (D.int .u16)) rfl) ?_; refine qq ?_; refine nT [(1, bn a0), (3, .mref 0), (30, cR a0.Switches), (31, vi (a0.Switches.length : Int)), (32, vi 0)] ?_; obtain ⟨z12, hl, h⟩ := ap h; refine bz ?_; refine fN (cB (a0.Switches.length : Int)) (fun (i5 : Int) (qq : (List (Int × Bool))) => ⟨tab [(1, bn a0), (3, .mref 0), (30, cR a0.Switches), (31, vi (a0.Switches.length : Int)), (32, vi i5)], ai [(0, .mp (eM (D.int .u16) D.bool qq))], 1⟩) 0 (fun (qq : (List (Int × Bool))) => ⟨tab [(1, bn a0), (3, .mref 0)], ai [(0, .mp (eM (D.int .u16) D.bool qq))], 1⟩) bB cC hl (by unfold bB; omega) ?_ ?_ ?_
   · rintro i5 m4 xr10 hinv8 hgo7 h; have hc9 := dy hgo7; refine al ?_; refine qq ?_; refine nI ?_; refine cE 31 rfl fun hB6 => ?_; refine aB ?_; refine aR rfl hc9 ?_; refine be ?_; refine aB ?_; refine bz ?_; obtain ⟨x11, hx11, h⟩ := ap h; refine al ?_; refine step (bV (xs := a0.Switches) (e := (D.int .u16)) hx11 rfl rfl) ?_; refine q2 ?_; refine nI ?_; refine dL ⟨tab [(1, bn a0), (3, .mref 0), (30, cR a0.Switches), (31, vi (a0.Switches.length : Int)), (32, vi i5)], ai [(0, .mp (eM (D.int .u16) D.bool (dT m4 x11 true)))], 1⟩ ?_ ?_
     · refine q2 ?_; refine step (v6 (ev := D.bool) (m := m4) (k := x11) (w := true) (vZ .u16) rfl rfl rfl rfl) ?_; exact nR [0]
     cases sj h; refine b9 (And.intro rfl rfl) ?_; refine step (co (cq hinv8 hgo7 hB6) rfl rfl) ?_; refine qq ?_; exact nR [0]
   · rintro i5 m4 hinv8 hgo7; have hc9 := dn hgo7; refine al ?_; refine qq ?_; refine nI ?_; refine aB ?_; refine aQ rfl hc9 ?_; refine b8 [(1, bn a0), (3, .mref 0)] ?_; refine cm ?_; exact ⟨rfl, rfl⟩
   obtain ⟨r13, hr13, h⟩ := ap h; refine aI ⟨tab [(1, bn a0), (3, .mref 0), (6, .loc 1 0 r13.length)], ai (k8 z12 r13), 2⟩ ?_ ?_
   · refine q2 ?_; refine lK (v := .loc 1 0 r13.length) (σ' := (am (ai [(0, .mp (eM (D.int .u16) D.bool z12))]) 1 (some (.lst false (some 2) (List.map eapi_Port r13))))) (n' := 2) (nf [] (dg.frz (Dk hr13)) (show 0 ≤ 1 by decide) (by decide) (show ∀ i ∈ [], i < 1 by decide) (nv (show 0 < 1 by decide) nw) (dl.c (.d _) dl.nil0) SN.nil0) (show 1 ≤ 2 by decide) ?_; refine qq ?_; exact nR [0, 1]
   refine aB ?_; refine al ?_; refine q2 ?_; refine step (bF (xs := a0.Links) (e := (eA2 eapi_Port)) rfl) ?_; refine qq ?_; refine nT [(1, bn a0), (3, .mref 0), (6, .loc 1 0 r13.length), (43, dA a0.Links), (44, vi (a0.Links.length : Int)), (45, vi 0)] ?_; obtain ⟨z23, hl, h⟩ := ap h; refine bz ?_; refine fN (cB (a0.Links.length : Int)) (fun (i15 : Int) (qq : (List api_Port)) => ⟨tab [(1, bn a0), (3, .mref 0), (6, .loc 1 0 qq.length), (43, dA a0.Links), (44, vi (a0.Links.length : Int)), (45, vi i15)], ai (k8 z12 qq), 2⟩) 2 (fun (qq : (List api_Port)) => ⟨tab [(1, bn a0), (3, .mref 0), (6, .loc 1 0 qq.length)], ai (k8 z12 qq), 2⟩) bB cC hl (by unfold bB; omega) ?_ ?_ ?_
   · rintro i15 l14 xr20 hinv18 hgo17 h; have hc19 := dy hgo17; refine al ?_; refine qq ?_; refine nI ?_; refine cE 44 rfl fun hB16 => ?_; refine aB ?_; refine aR rfl hc19 ?_; refine be ?_; refine aB ?_; refine bz ?_; obtain ⟨x21, hx21, h⟩ := ap h; refine aI ⟨tab [(1, bn a0), (3, .mref 0), (6, .loc 1 0 l14.length), (8, .ptr 2 0 0), (43, dA a0.Links), (44, vi (a0.Links.length : Int)), (45, vi i15)], ai [(0, .mp (eM (D.int .u16) D.bool z12)), (1, .lst false (some 2) (List.map eapi_Port l14)), (2, .var [vh x21.a0.Sw, vh x21.a0.Pt, vh x21.a1.Sw, vh x21.a1.Pt])], 3⟩ ?_ ?_
     · refine step (bV (xs := a0.Links) (e := (eA2 eapi_Port)) hx21 rfl rfl) ?_; refine q3 ?_; exact nR [0, 1, 2]
     refine d7 (s0 := ⟨tab [(1, bn a0), (3, .mref 0), (6, .loc 1 0 l14.length), (8, .d (.cptr (some 4) (eA2 eapi_Port x21) 0)), (43, dA a0.Links), (44, vi (a0.Links.length : Int)), (45, vi i15)], ai (k8 z12 l14), 2⟩) (bP.trans (s2 := ⟨tab [(1, bn a0), (3, .mref 0), (6, .loc 1 0 l14.length), (8, .d (.cptr (some 4) (eA2 eapi_Port x21) 0)), (43, dA a0.Links), (44, vi (a0.Links.length : Int)), (45, vi i15)], ai (k8 z12 l14), 2⟩) (BM 8 (id := 2) (j := 0) (ds := [.int .u16 x21.a0.Sw, .int .u16 x21.a0.Pt, .int .u16 x21.a1.Sw, .int .u16 x21.a1.Pt]) rfl rfl) (nr [0, 1])) ?_; obtain ⟨l22, hl22, h⟩ := ap h; refine dL ⟨tab [(1, bn a0), (3, .mref 0), (6, .loc 1 0 l22.length), (43, dA a0.Links), (44, vi (a0.Links.length : Int)), (45, vi i15)], ai (k8 z12 l22), 2⟩ ?_ ?_
     · refine q2 ?_; refine step (eY (xs := l14) (ys := [x21.a0, x21.a1]) (e := eapi_Port) hl22 rfl rfl rfl (fB (xs := [x21.a0, x21.a1]) (e := eapi_Port) rfl)) ?_; refine qq ?_; exact nR [0, 2]
     cases sj h; refine b9 (And.intro rfl rfl) ?_; refine step (co (cq hinv18 hgo17 hB16) rfl rfl) ?_; refine qq ?_; exact nR [0, 1]
   · rintro i15 l14 hinv18 hgo17; have hc19 := dn hgo17; refine al ?_; refine qq ?_; refine nI ?_; refine aB ?_; refine aQ rfl hc19 ?_; refine b8 [(1, bn a0), (3, .mref 0), (6, .loc 1 0 l14.length)] ?_; refine cm ?_; exact ⟨rfl, rfl⟩
   refine aI ⟨tab [(1, bn a0), (3, .mref 0), (6, .loc 1 0 z23.length), (9, .mref 2)], ai (oS z12 z23 ([] : List (api_Port × Bool))), 3⟩ ?_ ?_
   · refine q2 ?_; exact nR [0, 1, 2]
   refine aB ?_; refine al ?_; refine q3 ?_; refine nT [(1, bn a0), (3, .mref 0), (6, .loc 1 0 z23.length), (9, .mref 2), (54, .loc 1 0 z23.length), (55, vi (z23.length : Int)), (56, vi 0)] ?_; obtain ⟨q38, hl, h⟩ := ap h; refine bz ?_; refine dG (cB (z23.length : Int)) (fun (i25 : Int) (qq : (List (api_Port × Bool))) => ⟨tab [(1, bn a0), (3, .mref 0), (6, .loc 1 0 z23.length), (9, .mref 2), (54, .loc 1 0 z23.length), (55, vi (z23.length : Int)), (56, vi i25)], ai (oS z12 z23 qq), 3⟩) 4 (fun (qq : (List (api_Port × Bool))) => ⟨tab [(1, bn a0), (3, .mref 0), (6, .loc 1 0 z23.length), (9, .mref 2)], ai (oS z12 z23 qq), 3⟩) bB cC (r := r) hl (by unfold bB; omega) ?_ ?_ ?_ ?_
   · rintro i25 m24 xr30 hinv28 hgo27 h; have hc29 := dy hgo27; refine al ?_; refine qq ?_; refine nI ?_; refine cE 55 rfl fun hB26 => ?_; refine aB ?_; refine aR rfl hc29 ?_; refine be ?_; refine aB ?_; refine bz ?_; obtain ⟨x31, hx31, h⟩ := ap h; refine aI ⟨tab [(1, bn a0), (3, .mref 0), (6, .loc 1 0 z23.length), (9, .mref 2), (11, .ptr 3 0 0), (54, .loc 1 0 z23.length), (55, vi (z23.length : Int)), (56, vi i25)], ai [(0, .mp (eM (D.int .u16) D.bool z12)), (1, .lst false (some 2) (List.map eapi_Port z23)), (2, .mp (eM eapi_Port D.bool m24)), (3, .var [vh x31.Sw, vh x31.Pt])], 4⟩ ?_ ?_
     · refine step (iG (xs := z23) (e := eapi_Port) hx31 rfl rfl rfl rfl) ?_; refine step (ja (xs := z23) (e := eapi_Port) hx31 rfl rfl rfl) ?_; refine q2 ?_; exact nR [0, 1, 2, 3]
     refine aB ?_; refine al ?_; refine q3 ?_; refine step (Bs (ev := D.bool) (m := z12) (k := x31.Sw) (vZ .u16) false rfl rfl rfl rfl) ?_; refine qq ?_; refine nI ?_; by_cases hc32 : (!((mget z12 x31.Sw).getD false)) = true
     · replace h := aW hc32 h; refine aR rfl hc32 ?_; refine aI ⟨tab [(2, vi 12)], ai [], 0⟩ ?_ ?_
       · refine qq ?_; exact nR []
       obtain ⟨r33, kr33, hr⟩ := cx (o := some 12) (g := Br.ret) h; subst hr; have h := kr33; cases sj h; refine aZ ?_; refine And.intro (fun hn => nomatch hn) ?_; intro hq; have hq := hq.symm; subst hq; exact bH (.inr rfl) (aL rfl rfl) (RV.d trivial)
     · replace h := aX hc32 h; refine aQ rfl hc32 ?_; refine be ?_; refine dL ⟨tab [(1, bn a0), (3, .mref 0), (6, .loc 1 0 z23.length), (9, .mref 2), (54, .loc 1 0 z23.length), (55, vi (z23.length : Int)), (56, vi i25)], ai (oS z12 z23 (dT m24 x31 true)), 3⟩ ?_ ?_
       · refine qq ?_; refine step (dH (ds := [.int .u16 x31.Sw, .int .u16 x31.Pt]) rfl rfl (show 2 ≤ 2 by decide) rfl) ?_; refine step (v6 (ev := D.bool) (m := m24) (k := x31) (w := true) BS rfl rfl rfl rfl) ?_; exact nR [0, 1, 2]
       cases sj h; refine b9 (And.intro rfl rfl) ?_; refine step (co (cq hinv28 hgo27 hB26) rfl rfl) ?_; refine qq ?_; exact nR [0, 1, 2]
   · rintro i25 m24 hinv28 hgo27; have hc29 := dn hgo27; refine al ?_; refine qq ?_; refine nI ?_; refine aB ?_; refine aQ rfl hc29 ?_; refine b8 [(1, bn a0), (3, .mref 0), (6, .loc 1 0 z23.length), (9, .mref 2)] ?_; refine cm ?_; exact ⟨rfl, rfl⟩
   · intro r' hq; subst hq; exact bK h
   rintro z33 rfl; refine aB ?_; refine bz ?_; obtain ⟨n34, hn34, h⟩ := ap h; refine aI ⟨tab [(6, .loc 0 0 z23.length), (9, .mref 1), (68, vb (decide (n34 < (a0.Switches.length : Int))))], ai [(0, .lst false (some 2) (List.map eapi_Port z23)), (1, .mp (eM eapi_Port D.bool z33))], 2⟩ ?_ ?_
   · refine qq ?_; refine step (v := vi n34) (jb (v7 rfl rfl (oP hn34).1) (by rw [(oP hn34).2])) ?_; refine q2 ?_; refine step (bF (xs := a0.Switches) (e := (D.int .u16)) rfl) ?_; refine q2 ?_; exact nR [1, 2]
   by_cases hc35 : decide (n34 < (a0.Switches.length : Int)) = true
   · replace h := aW hc35 h; refine aR rfl hc35 ?_; refine aI ⟨tab [(2, vi 12)], ai [], 0⟩ ?_ ?_
     · refine qq ?_; exact nR []
     cases sj h; refine aZ ?_; exact bH (.inr rfl) (aL rfl rfl) (RV.d trivial)
   · replace h := aX hc35 h; refine aQ rfl hc35 ?_; obtain ⟨n36, hn36, h⟩ := ap h; refine aI ⟨tab [(75, vb (decide (n36 < (z23.length : Int))))], ai [], 0⟩ ?_ ?_
     · refine qq ?_; refine step (v := vi n36) (jb (v7 rfl rfl (oP hn36).1) (by rw [(oP hn36).2])) ?_; refine q4 ?_; exact nR []
     by_cases hc37 : decide (n36 < (z23.length : Int)) = true
     · replace h := aW hc37 h; refine aR rfl hc37 ?_; refine al ?_; refine qq ?_; refine nI ?_; cases sj h; refine aZ ?_; exact bH (.inr rfl) (aL rfl rfl) (RV.d trivial)
     · replace h := aX hc37 h; refine aQ rfl hc37 ?_; refine be ?_; refine al ?_; refine qq ?_; refine nI ?_; cases sj h; refine aZ ?_; exact bH (.inr rfl) (aL rfl rfl) (RV.d trivial)
theorem wd {a0 : Int} {a1 : api_Topo} {r : Bool} (h : nA a0 a1 = some r) : PCall Try.prog 85 [.int .i64 a0, .cptr (some 3) (eapi_Topo a1) 0] (.bool r) := by
 refine PCall.inW BX ?_; refine al ?_; refine qq ?_; refine nI ?_; refine aI ⟨tab [(3, vb ((decide (a0 ≥ 0)) && (decide (a0 < (a1.Hosts.length : Int)))))], ai [], 0⟩ ?_ ?_
 · refine q3 ?_; by_cases hg1 : decide (a0 ≥ 0) = true
   · refine gq hg1 ?_; refine gq hg1 ?_; refine gq hg1 ?_; refine qG _ hg1 ?_; refine step (bF (xs := a1.Hosts) (e := eapi_Port) rfl) ?_; refine gq hg1 ?_; refine step (bp rfl hg1 rfl) ?_; refine qq ?_; exact aO.nil' (nm [] ⟨.eq (by first | (simp [hg1]; done) | (simp_all; done) | grind), trivial⟩ trivial)
   · (iterate 5 refine gX hg1 ?_); refine step (bv rfl hg1 rfl) ?_; refine qq ?_; exact aO.nil' (nm [] ⟨.eq (by first | (simp [hg1]; done) | (simp_all; done) | grind), trivial⟩ trivial)
 cases sj h; refine aZ ?_; exact bH (.inr rfl) (aL rfl rfl) (RV.d trivial)
theorem Dm {a0 : (List Int)} {a1 : Int} {r : Int} (h : nB a0 a1 = some r) : PCall Try.prog 114 [eL none (D.int .u16) a0, .int .u16 a1] (.int .i64 r) := by
 refine PCall.inW BZ ?_; refine al ?_; refine qq ?_; refine nI ?_; refine aB ?_; refine al ?_; refine qq ?_; refine step (bF (xs := a0) (e := (D.int .u16)) rfl) ?_; refine qq ?_; refine nT [(0, cR a0), (1, vh a1), (7, vi (a0.length : Int)), (8, vi 0)] ?_; obtain ⟨q9, hl, h⟩ := ap h; refine bz ?_; refine dG (cB (a0.length : Int)) (fun (i1 : Int) (qq : Unit) => ⟨tab [(0, cR a0), (1, vh a1), (7, vi (a0.length : Int)), (8, vi i1)], ai [], 0⟩) 0 (fun (qq : Unit) => ⟨tab [], ai [], 0⟩) bB cC (r := r) hl (by unfold bB; omega) ?_ ?_ ?_ ?_
 · rintro i1 ⟨⟩ xr6 hinv4 hgo3 h; have hc5 := dy hgo3; refine al ?_; refine qq ?_; refine nI ?_; refine cE 7 rfl fun hB2 => ?_; refine aB ?_; refine aR rfl hc5 ?_; refine be ?_; refine aB ?_; refine bz ?_; refine al ?_; refine q2 ?_; refine nI ?_; obtain ⟨x7, hx7, h⟩ := ap h; refine al ?_; refine q3 ?_; refine step (bV (xs := a0) (e := (D.int .u16)) hx7 rfl rfl) ?_; refine q2 ?_; refine nI ?_; by_cases hc8 : (a1 == x7) = true
   · replace h := aW hc8 h; refine aR rfl hc8 ?_; refine al ?_; refine q2 ?_; refine nI ?_; obtain ⟨r9, kr9, hr⟩ := cx (o := some i1) (g := Br.ret) h; subst hr; have h := kr9; cases sj h; refine aZ ?_; refine And.intro (fun hn => nomatch hn) ?_; intro hq; have hq := hq.symm; subst hq; exact bH (.inr rfl) (aL rfl rfl) (RV.d trivial)
   · replace h := aX hc8 h; refine aQ rfl hc8 ?_; refine be ?_; cases sj h; refine b9 (And.intro rfl rfl) ?_; refine step (co (cq hinv4 hgo3 hB2) rfl rfl) ?_; refine qq ?_; exact nR []
 · rintro i1 ⟨⟩ hinv4 hgo3; have hc5 := dn hgo3; refine al ?_; refine qq ?_; refine nI ?_; refine aB ?_; refine aQ rfl hc5 ?_; refine b8 [] ?_; refine cm ?_; exact ⟨rfl, rfl⟩
 · intro r' hq; subst hq; exact bK h
 rintro ⟨⟩ rfl; refine aI ⟨tab [(4, vi (-1))], ai [], 0⟩ ?_ ?_
 · refine qq ?_; exact nR []
 cases sj h; refine aZ ?_; exact bH (.inr rfl) (aL rfl rfl) (RV.d trivial)
theorem oU {a0 : api_Topo} {a1 : Int} {r : (Int × Bool)} (h : jV a0 a1 = some r) : PCall Try.prog 103 [eapi_Topo a0, .int .u16 a1] (.tup [.int .i64 r.1, .bool r.2]) := by
 refine PCall.inW B0 ?_; refine al ?_; refine q3 ?_; refine nI ?_; obtain ⟨r1, hr1, h⟩ := ap h; refine al ?_; refine q3 ?_; refine bQ (aP (aP bk.nil')) (Dm hr1) ?_; refine qq ?_; refine nO ?_; refine q4 ?_; refine q2 ?_; refine nI ?_; cases sj h; refine aZ ?_; exact ct (.inr rfl) (aL rfl (aL rfl rfl)) (RV.d (RV.d trivial))
theorem Dn {a0 : (List Int)} {r : (List Int)} (h : lY a0 = some r) : dg Try.prog 125 [.loc 0 0 a0.length] (ai (eS a0)) 1 (.loc 0 0 r.length) (ai (eS r)) 1 := by
 refine dg.inW B3 ?_; refine al ?_; refine qq ?_; refine nI ?_; refine aB ?_; refine al ?_; refine q3 ?_; refine nI ?_; by_cases hc1 : decide ((a0.length : Int) < 2) = true
 · replace h := aW hc1 h; refine aR rfl hc1 ?_; refine al ?_; refine q2 ?_; refine nI ?_; cases sj h; refine aZ ?_; exact ⟨.inr rfl, _, rfl, rfl, fL.sub ⟨rfl, trivial⟩, rfl⟩
 · replace h := aX hc1 h; refine aQ rfl hc1 ?_; refine be ?_; refine aB ?_; refine al ?_; refine qq ?_; refine nT [(0, .loc 0 0 a0.length), (3, vi 1)] ?_; obtain ⟨q34, hl, h⟩ := ap h; refine bz ?_; refine dG (cB (a0.length : Int)) (fun (i2 : Int) (qq : Unit) => ⟨tab [(0, .loc 0 0 a0.length), (3, vi i2)], ai (eS a0), 1⟩) 0 (fun (qq : Unit) => ⟨tab [(0, .loc 0 0 a0.length)], ai (eS a0), 1⟩) bB cC (r := r) hl (by unfold bB; omega) ?_ ?_ ?_ ?_
   · rintro i2 ⟨⟩ xr7 hinv5 hgo4 h; have hc6 := dy hgo4; refine aB ?_; refine al ?_; refine q4 ?_; refine nI ?_; refine cE 12 rfl fun hB3 => ?_; refine aR rfl hc6 ?_; refine be ?_; refine aB ?_; refine bz ?_; obtain ⟨x8, hx8, h⟩ := ap h; obtain ⟨x9, hx9, h⟩ := ap h; refine al ?_; refine q2 ?_; refine step (iG (xs := a0) (e := (D.int .i64)) hx8 rfl rfl rfl rfl) ?_; refine step (ja (xs := a0) (e := (D.int .i64)) hx8 rfl rfl rfl) ?_; refine q3 ?_; refine step (iG (xs := a0) (e := (D.int .i64)) hx9 rfl rfl rfl rfl) ?_; refine step (ja (xs := a0) (e := (D.int .i64)) hx9 rfl rfl rfl) ?_; refine qq ?_; refine nI ?_; by_cases hc10 : (x8 == x9) = true
     · replace h := aW hc10 h; refine aR rfl hc10 ?_; obtain ⟨l11, hl11, h⟩ := ap h; refine al ?_; refine q2 ?_; refine step (tM (xs := a0) (e := (D.int .i64)) hl11 rfl rfl rfl ⟨_, rfl⟩ rfl) ?_; refine qq ?_; refine nI ?_; refine aB ?_; refine al ?_; refine qq ?_; refine nT [(0, .loc 0 0 a0.length), (3, vi i2), (4, .loc 0 i2.toNat ((a0.length : Int).toNat - i2.toNat)), (5, vi 1)] ?_; obtain ⟨q33, hl, h⟩ := ap h; obtain ⟨z30, z31⟩ := q33; refine bz ?_; refine fN (cB (l11.length : Int)) (fun (i14 : Int) (qq : ((List Int) × Int)) => ⟨tab [(0, .loc 0 0 qq.1.length), (3, vi qq.2), (4, .loc 0 i2.toNat ((a0.length : Int).toNat - i2.toNat)), (5, vi i14)], ai (eS qq.1), 1⟩) 2 (fun (qq : ((List Int) × Int)) => ⟨tab [(0, .loc 0 0 qq.1.length), (3, vi qq.2)], ai (eS qq.1), 1⟩) bB cC hl (by unfold bB; omega) ?_ ?_ ?_
       · rintro i14 ⟨l12, i13⟩ xr19 hinv17 hgo16 h; have hc18 := dy hgo16; refine aB ?_; refine al ?_; refine q2 ?_; refine step (tP (lo := i2) (hi := (a0.length : Int)) rfl hl11) ?_; refine qq ?_; refine nI ?_; refine cE 31 rfl fun hB15 => ?_; refine aR rfl hc18 ?_; refine be ?_; obtain ⟨q29, hv, h⟩ := ap h; obtain ⟨l27, y28⟩ := q29; refine gB ⟨tab [(0, .loc 0 0 l27.length), (3, vi y28), (4, .loc 0 i2.toNat ((a0.length : Int).toNat - i2.toNat)), (5, vi i14)], ai (eS l27), 1⟩ ?_ ?_
         · replace h := hv; refine bz ?_; obtain ⟨x20, hx20, h⟩ := ap h; obtain ⟨x21, hx21, h⟩ := ap h; obtain ⟨x22, hx22, h⟩ := ap h; obtain ⟨x23, hx23, h⟩ := ap h; refine al ?_; refine q2 ?_; refine step (rI (xs := l12) (e := (D.int .i64)) hx20 rfl rfl rfl) ?_; refine step (ja (xs := l12) (e := (D.int .i64)) hx21 rfl rfl rfl) ?_; refine q3 ?_; refine step (rI (xs := l12) (e := (D.int .i64)) hx22 rfl rfl rfl) ?_; refine step (ja (xs := l12) (e := (D.int .i64)) hx23 rfl rfl rfl) ?_; refine qq ?_; refine nI ?_; by_cases hc24 : (x21 != x23) = true
           · replace h := aW hc24 h; refine aR rfl hc24 ?_; obtain ⟨x25, hx25, h⟩ := ap h; obtain ⟨l26, hl26, h⟩ := ap h; refine aI ⟨tab [(0, .loc 0 0 l26.length), (3, vi i13), (4, .loc 0 i2.toNat ((a0.length : Int).toNat - i2.toNat)), (5, vi i14)], ai (eS l26), 1⟩ ?_ ?_
             · refine q4 ?_; refine step (rI (xs := l12) (e := (D.int .i64)) hx20 rfl rfl rfl) ?_; refine step (ja (xs := l12) (e := (D.int .i64)) hx21 rfl rfl rfl) ?_; refine step (iG (xs := l12) (e := (D.int .i64)) hx25 rfl rfl rfl rfl) ?_; refine step (np (e := (D.int .i64)) (v' := x21) hl26 rfl rfl rfl rfl rfl) ?_; exact aO.nil' (nm [0] ⟨.le (id := 0) (nn hl26).symm (show 0 < 1 by decide), .d _, .lc 0, .d _, trivial⟩ ⟨⟨show 0 < 1 by decide, _, rfl, .lst _ _ _⟩, trivial⟩)
             cases sj h; refine b9 (And.intro rfl rfl) ?_; refine q3 ?_; exact nR [0]
           · replace h := aX hc24 h; refine aQ rfl hc24 ?_; cases sj h; refine b8 [(0, .loc 0 0 l12.length), (3, vi i13), (4, .loc 0 i2.toNat ((a0.length : Int).toNat - i2.toNat)), (5, vi i14)] ?_; refine be ?_; exact ⟨rfl, rfl⟩
         cases sj h; refine b9 (And.intro rfl rfl) ?_; refine qq ?_; refine step (co (cq hinv17 hgo16 hB15) rfl rfl) ?_; refine qq ?_; exact nR [0]
       · rintro i14 ⟨l12, i13⟩ hinv17 hgo16; have hc18 := dn hgo16; refine aB ?_; refine al ?_; refine q2 ?_; refine step (tP (lo := i2) (hi := (a0.length : Int)) rfl hl11) ?_; refine qq ?_; refine nI ?_; refine aQ rfl hc18 ?_; refine b8 [(0, .loc 0 0 l12.length), (3, vi i13)] ?_; refine cm ?_; exact ⟨rfl, rfl⟩
       obtain ⟨l32, hl32, h⟩ := ap h; refine aI ⟨tab [(0, .loc 0 0 z30.length), (3, vi z31)], ai (eS (z30.take z31.toNat)), 1⟩ ?_ ?_
       · refine q2 ?_; refine step (tM (xs := z30) (e := (D.int .i64)) hl32 rfl rfl rfl ⟨_, rfl⟩ rfl) ?_; refine step (yQ (xs := z30) (e := (D.int .i64)) rfl rfl (by have := pR hl32; omega)) ?_; exact nR [0]
       refine al ?_; refine q2 ?_; refine step (yR (xs := z30) (e := (D.int .i64)) hl32 rfl rfl rfl rfl ⟨_, rfl⟩) ?_; refine qq ?_; refine nI ?_; obtain ⟨r33, kr33, hr⟩ := cx (o := some (z30.take z31.toNat)) (g := Br.ret) h; subst hr; have h := kr33; cases sj h; refine aZ ?_; refine And.intro (fun hn => nomatch hn) ?_; intro hq; have hq := hq.symm; subst hq; exact ⟨.inr rfl, _, rfl, rfl, fL.sub ⟨rfl, trivial⟩, rfl⟩
     · replace h := aX hc10 h; refine aQ rfl hc10 ?_; refine be ?_; cases sj h; refine b9 (And.intro rfl rfl) ?_; refine qq ?_; refine step (co (cq hinv5 hgo4 hB3) rfl rfl) ?_; refine qq ?_; exact nR [0]
   · rintro i2 ⟨⟩ hinv5 hgo4; have hc6 := dn hgo4; refine aB ?_; refine al ?_; refine q4 ?_; refine nT [(0, .loc 0 0 a0.length), (3, vi i2), (13, vb (decide (i2 < (a0.length : Int))))] ?_; refine aQ rfl hc6 ?_; refine b8 [(0, .loc 0 0 a0.length)] ?_; refine cm ?_; exact ⟨rfl, rfl⟩
   · intro r' hq; subst hq; exact bK h
   rintro ⟨⟩ rfl; refine aI ⟨tab [(2, .loc 0 0 a0.length)], ai (eS a0), 1⟩ ?_ ?_
   · refine q2 ?_; exact nR [0]
   cases sj h; refine aZ ?_; exact ⟨.inr rfl, _, rfl, rfl, fL.sub ⟨rfl, trivial⟩, rfl⟩
def oG (g : List (List Int)) : aH := ju [(0, .var (cP 2 g))] 2 g
def k9 (g : List (List Int)) (cs : List V) : aH := ju [(0, .var (cP 2 g)), (1, .var cs)] 2 g
theorem jx {g : List (List Int)} {i : Nat} {l : List Int} (h : g[i]? = some l) : oG g (2 + i) = some (.lst true none (l.map (D.int .i64))) := mC h
theorem f9 {g : List (List Int)} {T : Nat → V} {n : Nat} {l : List (Nat × V)} (hT : TN id (2 + g.length) T l) : bP 0 ⟨T, oG g, n⟩ ⟨tab l, oG g, 2 + g.length⟩ :=
 wa (by omega) hT (by intro p hp; simp at hp; subst hp; show 0 < 2; decide) ⟨⟨by show 0 < _; omega, _, rfl, .locs rfl rfl⟩, trivial⟩
theorem Do {g : List (List Int)} {T : Nat → V} {n : Nat} {l : List (Nat × V)} {cs : List V} {σ : aH} (h0 : σ 0 = some (.var (cP 2 g))) (h1 : σ n = some (.var cs)) (hcs : BN (fun id => if id = 1 then n else id) (2 + g.length) (.var cs) (.var cs)) (hin : ∀ i l, g[i]? = some l → σ (2 + i) = some (.lst true none (l.map (D.int .i64))))
 (hn : n = 2 + g.length) (hT : TN (fun id => if id = 1 then n else id) (2 + g.length) T l) : bP 0 ⟨T, σ, n + 1⟩ ⟨tab l, k9 g cs, 2 + g.length⟩ := by
 refine bP.fam (fun id => if id = 1 then n else id) (fun id h => by omega) (fun x y hx hy e => ?_) (by omega) hT (by intro p hp; simp at hp; rcases hp with rfl | rfl; (show 0 < 2; decide); (show 1 < 2; decide)) ⟨⟨by show 0 < _; omega, _, h0, .locs ?_ rfl⟩, ⟨by show 1 < _; omega, _, h1, hcs⟩, trivial⟩ (fun i l h => ?_)
 · split at e <;> split at e <;> omega
 · unfold cP hJ; congr 1; funext i l; have : ¬ (2 + i = 1) := by omega
   simp only [id, this, if_false]
 · have : ¬ (2 + i = 1) := by omega
   simp only [this, if_false]; exact hin i l h
theorem oV {T : Nat → V} {σ : aH} {n : Nat} {x : AX} {g : List (List Int)} {j : Nat} {l : List Int} {cs : List V} (hx : aC T x = .ptr 0 j 0) (h0 : σ 0 = some (.var cs)) (hg : cs[j]? = some (.loc (2 + j) 0 l.length)) : aD (.load none x) (aC T) σ n = some (.loc (2 + j) 0 l.length, σ, n) := by
 simp only [aD, hx, cT, h0, Nat.add_zero, fF, hg, Option.map_some]
theorem we {T : Nat → V} {σ : aH} {n : Nat} {x y : AX} {id : Nat} {la la2 : List Int} {b : Int} {m : Bool} (hx : aC T x = .loc id 0 la.length) (hy : aC T y = .d (.vec none [.int .i64 b])) (hid : σ id = some (.lst true none (la.map (D.int .i64)))) (hl : c6 la [b] = some la2) :
 aD (.append none x y m) (aC T) σ n = some (.loc n 0 la2.length, am (am σ id none) n (some (.lst true none (la2.map (D.int .i64)))), n + 1) := by
 unfold c6 at hl; split at hl
 · rename_i hle; cases hl; have e1 : fc σ none (.d (.vec none [D.int .i64 b])) = some [D.int .i64 b] := by simp [fc, fy, cG, d5]
   simp only [aD, eI, hx, hy, e1, hid]; rw [if_pos ⟨trivial, by simp, by simpa [fG] using hle⟩]; simp
 · cases hl
theorem rQ {T : Nat → V} {σ : aH} {n : Nat} {a x : AX} {j id len : Nat} {cs : List V} (ha : aC T a = .ptr 0 j 0) (hx : aC T x = .loc id 0 len) (h0 : σ 0 = some (.var cs)) (hj : j < cs.length) : aD (.store none a x) (aC T) σ n = some (V.undef, am σ 0 (some (.var (cs.set j (.loc id 0 len)))), n) := by
 have e1 : eT σ none (.ptr 0 j 0) (.loc id 0 len) = some (am σ 0 (some (.var (cs.set j (.loc id 0 len))))) := by
  unfold eT
  simp only [h0]
  rw [if_pos ⟨rfl, rfl, by show j + 0 + 1 ≤ _; omega⟩]
  have : cs.take (j + 0) ++ (V.loc id 0 len).cells ++ cs.drop (j + 0 + ak none) = cs.set j (.loc id 0 len) := BG cs j _ hj
  rw [this]
 simp [aD, ha, hx, e1]
theorem mG {α : Type} {l : List α} {i : Int} {x : α} (h : bd l i = some x) : 0 ≤ i ∧ l[i.toNat]? = some x ∧ i.toNat < l.length := by
 unfold bd at h; split at h
 · exact ⟨by assumption, h, (List.getElem?_eq_some_iff.1 h).1⟩
 · cases h
theorem rR {α : Type} {l l2 : List α} {i : Int} {x : α} (h : dc l i x = some l2) : l2 = l.set i.toNat x ∧ i.toNat < l.length := by
 unfold dc at h; split at h
 · split at h
   · cases h; exact ⟨rfl, by assumption⟩
   · cases h
 · cases h
theorem wg {g : List (List Int)} {T : Nat → V} {n m : Nat} {l : List (Nat × V)} {σ : aH} {j : Nat} {r : List Int} (hj : j < g.length) (hm : m = 2 + j ∨ 2 + g.length ≤ m) (h0 : σ 0 = some (.var ((cP 2 g).set j (.loc m 0 r.length)))) (h1 : σ m = some (.lst true none (r.map (D.int .i64)))) (hin : ∀ i l, i ≠ j → g[i]? = some l → σ (2 + i) = some (.lst true none (l.map (D.int .i64))))
 (hT : TN (fun id => if id = 2 + j then m else id) (2 + (g.set j r).length) T l) : bP 0 ⟨T, σ, n⟩ ⟨tab l, oG (g.set j r), 2 + (g.set j r).length⟩ := by
 have hlen : (g.set j r).length = g.length := by simp
 refine bP.fam (fun id => if id = 2 + j then m else id) (fun id h => by omega) (fun x y hx hy e => ?_) (by omega) hT (by intro p hp; simp at hp; subst hp; show 0 < 2; decide) ⟨⟨by show 0 < _; omega, _, by simpa [show ¬ (0 = 2 + j) by omega] using h0, .locs (BF hj) rfl⟩, trivial⟩ (fun i l h => ?_)
 · rw [hlen] at hx hy; split at e <;> split at e <;> omega
 · rw [List.getElem?_set] at h; by_cases e : j = i
   · subst e; rw [if_pos rfl, if_pos hj] at h; cases h; simpa using h1
   · rw [if_neg e] at h; have : ¬ (2 + i = 2 + j) := by omega
     simp only [this, if_false]; exact hin i l (Ne.symm e) h
theorem Dp {g : List (List Int)} {T : Nat → V} {n m : Nat} {l : List (Nat × V)} {σ : aH} {j k : Nat} {r q : List Int} (hj : j < g.length) (hk : k < g.length) (hjk : j ≠ k) (hm : m = 2 + g.length) (h0 : σ 0 = some (.var (((cP 2 g).set j (.loc m 0 r.length)).set k (.loc (m + 1) 0 q.length)))) (h1 : σ m = some (.lst true none (r.map (D.int .i64)))) (h2 : σ (m + 1) = some (.lst true none (q.map (D.int .i64))))
 (hin : ∀ i l, i ≠ j → i ≠ k → g[i]? = some l → σ (2 + i) = some (.lst true none (l.map (D.int .i64)))) (hT : TN (fun id => if id = 2 + j then m else if id = 2 + k then m + 1 else id) (2 + ((g.set j r).set k q).length) T l) : bP 0 ⟨T, σ, n⟩ ⟨tab l, oG ((g.set j r).set k q), 2 + ((g.set j r).set k q).length⟩ := by
 have hlen : ((g.set j r).set k q).length = g.length := by simp
 refine bP.fam (fun id => if id = 2 + j then m else if id = 2 + k then m + 1 else id) (fun id h => by omega) (fun x y hx hy e => ?_) (by omega) hT (by intro p hp; simp at hp; subst hp; show 0 < 2; decide) ⟨⟨by show 0 < _; omega, _, by simpa [show ¬ (0 = 2 + j) by omega, show ¬ (0 = 2 + k) by omega] using h0, .locs ?_ rfl⟩, trivial⟩ (fun i l h => ?_)
 · rw [hlen] at hx hy; split at e <;> split at e <;> (try split at e) <;> (try split at e) <;> omega
 · apply List.ext_getElem?; intro i; rw [rJ, List.getElem?_set, List.getElem?_set, List.getElem?_set, List.getElem?_set, List.length_set, List.length_set, iR]; by_cases e : k = i
   · subst e; have e1 : ¬ (k = j) := fun h => hjk h.symm; simp [hk, e1]
   · rw [if_neg e, if_neg e]; by_cases e2 : j = i
     · subst e2; simp [hj]
     · have e3 : ¬ (2 + i = 2 + j) := by omega
       have e4 : ¬ (2 + i = 2 + k) := by omega
       rw [if_neg e2, if_neg e2, iQ, if_neg e3, if_neg e4]
 · rw [List.getElem?_set, List.getElem?_set, List.length_set] at h; by_cases e : k = i
   · subst e; rw [if_pos rfl, if_pos hk] at h; cases h; have e1 : ¬ (k = j) := fun h => hjk h.symm; simpa [e1] using h2
   · rw [if_neg e] at h; by_cases e2 : j = i
     · subst e2; rw [if_pos rfl, if_pos hj] at h; cases h; simpa using h1
     · rw [if_neg e2] at h; have e3 : ¬ (2 + i = 2 + j) := by omega
       have e4 : ¬ (2 + i = 2 + k) := by omega
       simp only [e3, e4, if_false]; exact hin i l (Ne.symm e2) (Ne.symm e) h
theorem VN.l0 {ρ : Nat → Nat} {n0 a b : Nat} (h : a = b) (h0 : ρ 0 = 0) (hn : 0 < n0) : VN ρ n0 (.loc 0 0 a) (.loc 0 0 b) := by
 subst h; have := VN.loc (ρ := ρ) 0 0 a hn; rwa [h0] at this
def Dq : bC :=
 (.seq (.ops false [
  ⟨some 21, .bin .lss (.t 20) (.t 19), none⟩])
  (.seq (.cond (.t 21)
   (.skip)
   (.exit 0))
  (.seq (.block 1 (.seq (.ops false [
   ⟨some 22, .mov (.t 20), none⟩,
   ⟨some 23, .iaddr (some 4) (.t 18) (.t 20), none⟩,
   ⟨some 24, .load (some 4) (.t 23), none⟩,
   ⟨some 7, .alloc [.int .u16 0, .int .u16 0, .int .u16 0, .int .u16 0], none⟩,
   ⟨some 6, .mov (.t 22), none⟩,
   ⟨none, .store (some 4) (.t 7) (.t 24), none⟩])
   (.seq (.ops false [
    ⟨some 26, .ldI (some 3) (.t 2), none⟩,
    ⟨some 27, .iaddrA 2 (some 2) (.t 7) (.c (.int .i64 0)), none⟩,
    ⟨some 28, .faddr 0 (.t 27), none⟩,
    ⟨some 29, .load none (.t 28), none⟩,
    ⟨some 30, .call false 103 [(.t 26), (.t 29)], none⟩,
    ⟨some 25, .mov (.t 30), none⟩,
    ⟨some 31, .extract (.t 25) 0, none⟩,
    ⟨some 32, .extract (.t 25) 1, none⟩,
    ⟨some 8, .mov (.t 31), none⟩,
    ⟨some 9, .mov (.t 32), none⟩])
   (.seq (.ops false [
    ⟨some 34, .ldI (some 3) (.t 2), none⟩,
    ⟨some 35, .iaddrA 2 (some 2) (.t 7) (.c (.int .i64 1)), none⟩,
    ⟨some 36, .faddr 0 (.t 35), none⟩,
    ⟨some 37, .load none (.t 36), none⟩,
    ⟨some 38, .call false 103 [(.t 34), (.t 37)], none⟩,
    ⟨some 33, .mov (.t 38), none⟩,
    ⟨some 39, .extract (.t 33) 0, none⟩,
    ⟨some 40, .extract (.t 33) 1, none⟩,
    ⟨some 10, .mov (.t 39), none⟩,
    ⟨some 11, .mov (.t 40), none⟩])
   (.seq (.seq (.ops false [
    ⟨some 41, .mov (.t 9), none⟩,
    ⟨some 42, .un .not (.t 41), none⟩,
    ⟨some 43, .mov (.t 42), none⟩,
    ⟨some 44, .mov (.t 11), some (43, false)⟩,
    ⟨some 45, .un .not (.t 44), some (43, false)⟩,
    ⟨some 46, .pick (.t 43) (.c (.bool true)) (.t 45), none⟩,
    ⟨some 47, .mov (.t 46), none⟩,
    ⟨some 48, .mov (.t 8), some (47, false)⟩,
    ⟨some 49, .mov (.t 10), some (47, false)⟩,
    ⟨some 50, .bin .eql (.t 48) (.t 49), some (47, false)⟩,
    ⟨some 51, .pick (.t 47) (.c (.bool true)) (.t 50), none⟩,
    ⟨some 52, .mov (.t 51), none⟩,
    ⟨some 53, .mov (.t 6), some (52, false)⟩,
    ⟨some 54, .mov (.t 1), some (52, false)⟩,
    ⟨some 55, .bin .eql (.t 53) (.t 54), some (52, false)⟩,
    ⟨some 56, .pick (.t 52) (.c (.bool true)) (.t 55), none⟩])
    (.cond (.t 56)
    (.exit 1)
    (.skip)))
   (.opsS [(10, 13), (10, 14)] [
    ⟨some 57, .mov (.t 5), none⟩,
    ⟨some 58, .mov (.t 8), none⟩,
    ⟨some 59, .mov (.t 5), none⟩,
    ⟨some 60, .mov (.t 10), none⟩,
    ⟨some 61, .mov (.t 5), none⟩,
    ⟨some 62, .mov (.t 8), none⟩,
    ⟨some 63, .iaddr none (.t 61) (.t 62), none⟩,
    ⟨some 64, .load none (.t 63), none⟩,
    ⟨some 65, .mov (.t 10), none⟩,
    ⟨some 66, .bsliceI none [(.t 65)], none⟩,
    ⟨some 67, .append none (.t 64) (.t 66) false, none⟩,
    ⟨some 68, .mov (.t 5), none⟩,
    ⟨some 69, .mov (.t 10), none⟩,
    ⟨some 70, .iaddr none (.t 68) (.t 69), none⟩,
    ⟨some 71, .load none (.t 70), none⟩,
    ⟨some 72, .mov (.t 8), none⟩,
    ⟨some 73, .bsliceI none [(.t 72)], none⟩,
    ⟨some 74, .append none (.t 71) (.t 73) false, none⟩,
    ⟨some 75, .iaddr none (.t 57) (.t 58), none⟩,
    ⟨none, .store none (.t 75) (.t 67), none⟩,
    ⟨some 76, .iaddr none (.t 59) (.t 60), none⟩,
    ⟨none, .store none (.t 76) (.t 74), none⟩]))))))
  (.ops false [
   ⟨some 77, .bin .add (.t 20) (.c (.int .i64 1)), none⟩,
   ⟨some 20, .mov (.t 77), none⟩]))))
def Dr : bC :=
 (.seq (.ops false [
  ⟨some 81, .bin .lss (.t 80) (.t 79), none⟩])
  (.seq (.cond (.t 81)
   (.skip)
   (.exit 2))
  (.seq (.block 3 (.seq (.ops false [
   ⟨some 82, .mov (.t 80), none⟩,
   ⟨some 12, .mov (.t 82), none⟩])
   (.seq (.ops false [
    ⟨some 83, .mov (.t 5), none⟩,
    ⟨some 84, .mov (.t 12), none⟩,
    ⟨some 85, .iaddr none (.t 83) (.t 84), none⟩,
    ⟨some 86, .load none (.t 85), none⟩,
    ⟨some 87, .call true 124 [(.t 86)], none⟩])
   (.ops false [
    ⟨some 88, .mov (.t 5), none⟩,
    ⟨some 89, .mov (.t 12), none⟩,
    ⟨some 90, .mov (.t 5), none⟩,
    ⟨some 91, .mov (.t 12), none⟩,
    ⟨some 92, .iaddr none (.t 90) (.t 91), none⟩,
    ⟨some 93, .load none (.t 92), none⟩,
    ⟨some 94, .call true 125 [(.t 93)], none⟩,
    ⟨some 95, .iaddr none (.t 88) (.t 89), none⟩,
    ⟨none, .store none (.t 95) (.t 94), none⟩]))))
  (.ops false [
   ⟨some 96, .bin .add (.t 80) (.c (.int .i64 1)), none⟩,
   ⟨some 80, .mov (.t 96), none⟩]))))
def Dt : bR := .mk 98
 (.seq (.ops false [
  ⟨some 2, .box (some 3) (.t 0) true, none⟩,
  ⟨some 4, .mov (.c (.vec none [])), none⟩])
  (.seq (.ops false [
   ⟨some 13, .faddr 0 (.t 2), none⟩,
   ⟨some 14, .ldI none (.t 13), none⟩,
   ⟨some 15, .len (.t 14), none⟩,
   ⟨some 16, .mkslV .nils (.t 15) (.t 15), none⟩,
   ⟨some 5, .mov (.t 16), none⟩])
  (.seq (.seq (.ops false [
   ⟨some 17, .faddr 1 (.t 2), none⟩,
   ⟨some 18, .ldI none (.t 17), none⟩,
   ⟨some 19, .len (.t 18), none⟩,
   ⟨some 20, .mov (.c (.int .i64 0)), none⟩])
   (.block 0 (.loop Dq)))
  (.seq (.seq (.ops false [
   ⟨some 78, .mov (.t 5), none⟩,
   ⟨some 79, .len (.t 78), none⟩,
   ⟨some 80, .mov (.c (.int .i64 0)), none⟩])
   (.block 2 (.loop Dr)))
  (.seq (.ops false [
   ⟨some 97, .mov (.t 5), none⟩,
   ⟨some 4, .mov (.t 97), none⟩])
  (.ret))))))
 [.t 4]
theorem Du {a0 : api_Topo} {a1 : Int} {r : (List (List Int))} (h : nE a0 a1 = some r) : PCall Try.prog 115 [eapi_Topo a0, .int .i64 a1] (eL none (eL none (D.int .i64)) r) := by
 refine PCall.inW Dt ?_; refine al ?_; refine q2 ?_; refine nI ?_; obtain ⟨g0, hg0, h⟩ := ap h
 have hg0' : 0 ≤ (a0.Switches.length : Int) ∧ (a0.Switches.length : Int) ≤ 4294967296 ∧ g0 = List.replicate a0.Switches.length [] := by
  unfold eX at hg0
  split at hg0
  ·
   rename_i hc; cases hg0; exact ⟨hc.1, hc.2, by simp⟩
  ·
   cases hg0
 obtain ⟨hn0, hn1, hg0e⟩ := hg0'; have hgl : g0.length = a0.Switches.length := by rw [hg0e]; simp
 refine aI ⟨tab [(1, vi a1), (2, bn a0), (5, .loc 0 0 g0.length)], oG g0, 2 + g0.length⟩ ?_ ?_
 · refine q2 ?_; refine step (bF (xs := a0.Switches) (e := (D.int .u16)) rfl) ?_; refine step (v := .loc 0 0 a0.Switches.length) (σ' := am (ai []) 0 (some (.var (List.replicate a0.Switches.length (.d .nils))))) (n' := 1) (Bv rfl rfl ⟨hn0, hn1⟩ (by simp) (by simp)) ?_; refine qq ?_; refine aO.nil' (bP.trans (BD 2 (by show 1 ≤ 2; decide) (o := 0) (k := a0.Switches.length) (by simp [am]) (by show 0 < 1; decide)) ?_); refine bP.fam id (fun _ _ => rfl) (fun x y _ _ e => e) (by omega) ⟨.d _, .d _, .le (id := 0) hgl.symm (by show 0 < _; omega), trivial⟩ (by intro p hp; simp at hp; subst hp; show 0 < 2; decide) ⟨⟨by show 0 < _; omega, _, rfl, .locs (by rw [hg0e]; rfl) rfl⟩, trivial⟩ (fun i l hl => ?_); have hi : i < a0.Switches.length := by have := (List.getElem?_eq_some_iff.1 hl).1; omega
   rw [hg0e, List.getElem?_replicate, if_pos hi] at hl; cases hl; have e1 : ¬ (2 + i = 0) := by omega
   have e2 : 2 ≤ 2 + i ∧ 2 + i < 2 + a0.Switches.length := by omega
   simp only [id, e1, e2, if_true, if_false, and_self, List.map_nil]
 clear hg0 hg0e hgl; refine aB ?_; refine aI ⟨tab [(1, vi a1), (2, bn a0), (5, .loc 0 0 g0.length), (18, dA a0.Links), (19, vi (a0.Links.length : Int)), (20, vi 0)], oG g0, 2 + g0.length⟩ ?_ ?_
 · refine q2 ?_; refine step (bF (xs := a0.Links) (e := (eA2 eapi_Port)) rfl) ?_; refine qq ?_; exact aO.nil' (f9 ⟨.d _, .d _, .loc 0 _ _ (by omega), .d _, .d _, .d _, trivial⟩)
 obtain ⟨z1, hl, h⟩ := ap h; refine bz ?_; refine fN (cB (a0.Links.length : Int)) (fun (i2 : Int) (g : List (List Int)) => ⟨tab [(1, vi a1), (2, bn a0), (5, .loc 0 0 g.length), (18, dA a0.Links), (19, vi (a0.Links.length : Int)), (20, vi i2)], oG g, 2 + g.length⟩) 0 (fun (g : List (List Int)) => ⟨tab [(5, .loc 0 0 g.length)], oG g, 2 + g.length⟩) bB cC hl (by unfold bB; omega) ?_ ?_ ?_
 · rintro i2 g g9 hinv hgo h; have hc : decide (i2 < (a0.Links.length : Int)) = true := decide_eq_true hgo; refine aI ⟨tab [(1, vi a1), (2, bn a0), (5, .loc 0 0 g.length), (18, dA a0.Links), (19, vi (a0.Links.length : Int)), (20, vi i2), (21, vb (decide (i2 < (a0.Links.length : Int))))], oG g, 2 + g.length⟩ ?_ ?_
   · refine qq ?_; exact aO.nil' (f9 ⟨.d _, .d _, .loc 0 _ _ (by omega), .d _, .d _, .d _, .d _, trivial⟩)
   refine cE 19 rfl fun hB3 => ?_; refine aB ?_; refine aR rfl hc ?_; refine be ?_; refine gB ⟨tab [(1, vi a1), (2, bn a0), (5, .loc 0 0 g9.length), (18, dA a0.Links), (19, vi (a0.Links.length : Int)), (20, vi i2)], oG g9, 2 + g9.length⟩ ?_ ?_
   · refine bz ?_; obtain ⟨x8, hx8, h⟩ := ap h; refine aI ⟨tab [(1, vi a1), (2, bn a0), (5, .loc 0 0 g.length), (6, vi i2), (7, .ptr 1 0 0), (18, dA a0.Links), (19, vi (a0.Links.length : Int)), (20, vi i2)], k9 g [vh x8.a0.Sw, vh x8.a0.Pt, vh x8.a1.Sw, vh x8.a1.Pt], 2 + g.length⟩ ?_ ?_
     · refine qq ?_; refine step (bV (xs := a0.Links) (e := (eA2 eapi_Port)) hx8 rfl rfl) ?_; refine qq ?_; refine step (v := .ptr (2 + g.length) 0 0) (σ' := (am (oG g) (2 + g.length) (some (.var [vh 0, vh 0, vh 0, vh 0])))) (n' := 2 + g.length + 1) rfl ?_; refine qq ?_; refine step (v := V.undef) (σ' := am (am (oG g) (2 + g.length) (some (.var [vh 0, vh 0, vh 0, vh 0]))) (2 + g.length) (some (.var [vh x8.a0.Sw, vh x8.a0.Pt, vh x8.a1.Sw, vh x8.a1.Pt]))) (n' := 2 + g.length + 1) ?_ ?_
       · have e1 : eT (am (oG g) (2 + g.length) (some (.var [vh 0, vh 0, vh 0, vh 0]))) (some 4) (.ptr (2 + g.length) 0 0) (.d (eA2 eapi_Port x8)) = some (am (am (oG g) (2 + g.length) (some (.var [vh 0, vh 0, vh 0, vh 0]))) (2 + g.length) (some (.var [vh x8.a0.Sw, vh x8.a0.Pt, vh x8.a1.Sw, vh x8.a1.Pt]))) := by
          unfold eT
          simp only [bt]
          rfl
         show (eT _ (some 4) (.ptr (2 + g.length) 0 0) (.d (eA2 eapi_Port x8))).map _ = _; rw [e1]; rfl
       have f0 : ∀ id, id ≠ 2 + g.length → am (am (oG g) (2 + g.length) (some (.var [vh 0, vh 0, vh 0, vh 0]))) (2 + g.length) (some (.var [vh x8.a0.Sw, vh x8.a0.Pt, vh x8.a1.Sw, vh x8.a1.Pt])) id = oG g id := fun id hid => by rw [aT _ _ hid, aT _ _ hid]
       exact aO.nil' (Do ((f0 0 (by omega)).trans rfl) (bt _ _ _) (.vars ⟨.d _, .d _, .d _, .d _, trivial⟩) (fun i l hl => (f0 _ (by have := (List.getElem?_eq_some_iff.1 hl).1; omega)).trans (jx hl)) rfl ⟨.d _, .d _, .loc 0 _ _ (by omega), .d _, .ptr 1 _ _ (by omega), .d _, .d _, .d _, trivial⟩)
     obtain ⟨r1, hr1, h⟩ := ap h
     have keep1 : ∀ {T : Nat → V} {n : Nat} {l : List (Nat × V)} {cs : List V}, BN id (2 + g.length) (.var cs) (.var cs) → TN id (2 + g.length) T l → bP 0 ⟨T, k9 g cs, n⟩ ⟨tab l, k9 g cs, 2 + g.length⟩ := fun hcs hT =>
      wa (by omega) hT (by intro p hp; simp at hp; rcases hp with rfl | rfl; (show 0 < 2; decide); (show 1 < 2; decide)) ⟨⟨by show 0 < _; omega, _, rfl, .locs rfl rfl⟩, ⟨by show 1 < _; omega, _, rfl, hcs⟩, trivial⟩
     have drop1 : ∀ {T : Nat → V} {n : Nat} {l : List (Nat × V)} {cs : List V}, TN id (2 + g.length) T l → bP 0 ⟨T, k9 g cs, n⟩ ⟨tab l, oG g, 2 + g.length⟩ := fun hT =>
      bP.fam id (fun _ _ => rfl) (fun x y _ _ e => e) (by omega) hT (by intro p hp; simp at hp; subst hp; show 0 < 2; decide) ⟨⟨by show 0 < _; omega, _, rfl, .locs rfl rfl⟩, trivial⟩ (fun i l hl => mC hl)
     refine aI ⟨tab [(1, vi a1), (2, bn a0), (5, .loc 0 0 g.length), (6, vi i2), (7, .ptr 1 0 0), (8, vi r1.1), (9, vb r1.2), (18, dA a0.Links), (19, vi (a0.Links.length : Int)), (20, vi i2)], k9 g [vh x8.a0.Sw, vh x8.a0.Pt, vh x8.a1.Sw, vh x8.a1.Pt], 2 + g.length⟩ ?_ ?_
     · refine q4 ?_; refine bQ (aP (aP bk.nil')) (oU hr1) ?_; refine q4 ?_; refine qq ?_; exact aO.nil' (keep1 (.vars ⟨.d _, .d _, .d _, .d _, trivial⟩) ⟨.d _, .d _, .loc 0 _ _ (by omega), .d _, .ptr 1 _ _ (by omega), .d _, .d _, .d _, .d _, .d _, trivial⟩)
     obtain ⟨r2, hr2, h⟩ := ap h; refine aI ⟨tab [(1, vi a1), (2, bn a0), (5, .loc 0 0 g.length), (6, vi i2), (8, vi r1.1), (9, vb r1.2), (10, vi r2.1), (11, vb r2.2), (18, dA a0.Links), (19, vi (a0.Links.length : Int)), (20, vi i2)], oG g, 2 + g.length⟩ ?_ ?_
     · refine q4 ?_; refine bQ (aP (aP bk.nil')) (oU hr2) ?_; refine q4 ?_; refine qq ?_; exact aO.nil' (drop1 ⟨.d _, .d _, .loc 0 _ _ (by omega), .d _, .d _, .d _, .d _, .d _, .d _, .d _, .d _, trivial⟩)
     clear keep1 drop1; refine aB ?_; refine aB ?_; have keepT : ∀ {T : Nat → V} {n : Nat}, (hT : TN id (2 + g.length) T [(1, vi a1), (2, bn a0), (5, .loc 0 0 g.length), (8, vi r1.1), (10, vi r2.1), (18, dA a0.Links), (19, vi (a0.Links.length : Int)), (20, vi i2), (56, vb ((!r1.2) || ((!r2.2) || ((r1.1 == r2.1) || (i2 == a1)))))]) → aO Try.prog [] ⟨T, oG g, n⟩ (fun s' => bP 0 s' ⟨tab [(1, vi a1), (2, bn a0), (5, .loc 0 0 g.length), (8, vi r1.1), (10, vi r2.1), (18, dA a0.Links), (19, vi (a0.Links.length : Int)), (20, vi i2), (56, vb ((!r1.2) || ((!r2.2) || ((r1.1 == r2.1) || (i2 == a1)))))], oG g, 2 + g.length⟩) := fun hT => aO.nil' (f9 hT); refine dL ⟨tab [(1, vi a1), (2, bn a0), (5, .loc 0 0 g.length), (8, vi r1.1), (10, vi r2.1), (18, dA a0.Links), (19, vi (a0.Links.length : Int)), (20, vi i2), (56, vb ((!r1.2) || ((!r2.2) || ((r1.1 == r2.1) || (i2 == a1)))))], oG g, 2 + g.length⟩ ?_ ?_
     · refine q3 ?_; by_cases e1 : (!r1.2) = true
       · (iterate 2 refine qX (!r1.2) (by rw [e1]; decide) ?_); refine step (bp rfl e1 rfl) ?_; refine qq ?_; (iterate 3 refine qX true (by decide) ?_); refine step (bp rfl rfl rfl) ?_; refine qq ?_; (iterate 3 refine qX true (by decide) ?_); refine step (bp rfl rfl rfl) ?_; exact keepT ⟨.d _, .d _, .loc 0 _ _ (by omega), .d _, .d _, .d _, .d _, .d _, .eq (by rw [e1]; rfl), trivial⟩
       · refine qG _ (bf e1) ?_; refine qq ?_; refine qG _ (bf e1) ?_; refine qq ?_; refine step (bv rfl e1 rfl) ?_; refine qq ?_; have e1' : (!r1.2) = false := Bool.eq_false_iff.2 e1; by_cases e2 : (!r2.2) = true
         · (iterate 3 refine qX (!r2.2) (by rw [e2]; decide) ?_); refine step (bp rfl e2 rfl) ?_; refine qq ?_; (iterate 3 refine qX true (by decide) ?_); refine step (bp rfl rfl rfl) ?_; exact keepT ⟨.d _, .d _, .loc 0 _ _ (by omega), .d _, .d _, .d _, .d _, .d _, .eq (by rw [e1', e2]; rfl), trivial⟩
         · have e2' : (!r2.2) = false := Bool.eq_false_iff.2 e2; refine qG _ e2' ?_; refine qq ?_; refine qG _ e2' ?_; refine qq ?_; refine qG _ e2' ?_; refine qq ?_; refine step (bv rfl e2 rfl) ?_; refine qq ?_; by_cases e3 : (r1.1 == r2.1) = true
           · (iterate 3 refine qX (r1.1 == r2.1) (by rw [e3]; decide) ?_); refine step (bp rfl e3 rfl) ?_; exact keepT ⟨.d _, .d _, .loc 0 _ _ (by omega), .d _, .d _, .d _, .d _, .d _, .eq (by rw [e1', e2', e3]; rfl), trivial⟩
           · have e3' : (r1.1 == r2.1) = false := Bool.eq_false_iff.2 e3; refine qG _ e3' ?_; refine qq ?_; refine qG _ e3' ?_; refine qq ?_; refine qG _ e3' ?_; refine qq ?_; refine step (bv rfl e3 rfl) ?_; exact keepT ⟨.d _, .d _, .loc 0 _ _ (by omega), .d _, .d _, .d _, .d _, .d _, .eq (by rw [e1', e2', e3']; rfl), trivial⟩
     clear keepT; by_cases hcc : ((!r1.2) || ((!r2.2) || ((r1.1 == r2.1) || (i2 == a1)))) = true
     · replace h := aW hcc h; cases h; refine aR rfl hcc ?_; refine d7 (s0 := ⟨tab [(1, vi a1), (2, bn a0), (5, .loc 0 0 g.length), (18, dA a0.Links), (19, vi (a0.Links.length : Int)), (20, vi i2)], oG g, 2 + g.length⟩) (f9 ⟨.d _, .d _, .loc 0 _ _ (by omega), .d _, .d _, .d _, trivial⟩) ?_; refine cm ?_; exact ⟨rfl, rfl⟩
     · replace h := aX hcc h
       have hne : r1.1 ≠ r2.1 := by
        intro e
        apply hcc
        have : (r1.1 == r2.1) = true := by simp [e]
        rw [this]; simp
       refine aQ rfl hcc ?_; refine be ?_; obtain ⟨la, hla, h⟩ := ap h; obtain ⟨la2, hla2, h⟩ := ap h; obtain ⟨lb, hlb, h⟩ := ap h; obtain ⟨lb2, hlb2, h⟩ := ap h; obtain ⟨g2, hg2, h⟩ := ap h; obtain ⟨p1, p2, p3⟩ := mG hla; obtain ⟨q1', q2', q3'⟩ := mG hlb; obtain ⟨hg2e, _⟩ := rR hg2; obtain ⟨hg9e, _⟩ := rR h; subst hg2e; have hjk : r1.1.toNat ≠ r2.1.toNat := by omega
       generalize hn : 2 + g.length = n; have hna : 2 + r1.1.toNat ≠ n := by omega
       have hnb : 2 + r2.1.toNat ≠ n := by omega
       have hab : 2 + r2.1.toNat ≠ 2 + r1.1.toNat := by omega
       obtain ⟨σ1, hσ1⟩ : ∃ σ1, σ1 = am (am (oG g) (2 + r1.1.toNat) none) n (some (.lst true none (la2.map (D.int .i64)))) := ⟨_, rfl⟩; obtain ⟨σ2, hσ2⟩ : ∃ σ2, σ2 = am (am σ1 (2 + r2.1.toNat) none) (n + 1) (some (.lst true none (lb2.map (D.int .i64)))) := ⟨_, rfl⟩; have z0 : oG g 0 = some (.var (cP 2 g)) := rfl; have z1 : σ1 0 = some (.var (cP 2 g)) := by rw [hσ1, aT _ _ (by omega), aT _ _ (by omega)]; rfl
       have z2 : σ2 0 = some (.var (cP 2 g)) := by rw [hσ2, aT _ _ (by omega), aT _ _ (by omega)]; exact z1
       have zb : σ1 (2 + r2.1.toNat) = some (.lst true none (lb.map (D.int .i64))) := by rw [hσ1, aT _ _ hnb, aT _ _ hab]; exact jx q2'
       obtain ⟨σ3, hσ3⟩ : ∃ σ3, σ3 = am σ2 0 (some (.var ((cP 2 g).set r1.1.toNat (.loc n 0 la2.length)))) := ⟨_, rfl⟩; obtain ⟨σ4, hσ4⟩ : ∃ σ4, σ4 = am σ3 0 (some (.var (((cP 2 g).set r1.1.toNat (.loc n 0 la2.length)).set r2.1.toNat (.loc (n + 1) 0 lb2.length)))) := ⟨_, rfl⟩; refine oO ⟨tab [(1, vi a1), (2, bn a0), (5, .loc 0 0 g9.length), (18, dA a0.Links), (19, vi (a0.Links.length : Int)), (20, vi i2)], oG g9, 2 + g9.length⟩ ?_ (And.intro rfl rfl); (iterate 6 refine bL (v := _) [] [] rfl rfl rfl ?_); refine bL (v := .ptr 0 r1.1.toNat 0) [0] [] (kf (m := g.length) rfl z0 rfl ⟨p1, by omega⟩ rfl) rfl rfl ?_; refine bL (v := .loc (2 + r1.1.toNat) 0 la.length) [0] [] (oV (g := g) rfl z0 (by rw [iQ, p2]; rfl)) rfl rfl ?_; (iterate 2 refine bL (v := _) [] [] rfl rfl rfl ?_); refine bL (v := .loc n 0 la2.length) (σ' := σ1) (n' := n + 1) [2 + r1.1.toNat] [2 + r1.1.toNat] (by rw [hσ1]; exact we rfl rfl (jx p2) hla2) rfl rfl ?_; (iterate 2 refine bL (v := _) [] [] rfl rfl rfl ?_); refine bL (v := .ptr 0 r2.1.toNat 0) [0] [] (kf (m := g.length) rfl z1 rfl ⟨q1', by omega⟩ rfl) rfl rfl ?_; refine bL (v := .loc (2 + r2.1.toNat) 0 lb.length) [0] [] (oV (g := g) rfl z1 (by rw [iQ, q2']; rfl)) rfl rfl ?_; (iterate 2 refine bL (v := _) [] [] rfl rfl rfl ?_); refine bL (v := .loc (n + 1) 0 lb2.length) (σ' := σ2) (n' := n + 1 + 1) [2 + r2.1.toNat] [2 + r2.1.toNat] (by rw [hσ2]; exact we rfl rfl zb hlb2) rfl rfl ?_; refine bL (v := .ptr 0 r1.1.toNat 0) [0] [] (kf (m := g.length) rfl z2 rfl ⟨p1, by omega⟩ rfl) rfl rfl ?_; refine bL (v := V.undef) (σ' := σ3) (n' := n + 1 + 1) [0] [0] (by rw [hσ3]; exact rQ rfl rfl z2 (by rw [iR]; exact p3)) rfl rfl ?_; have z3 : σ3 0 = some (.var ((cP 2 g).set r1.1.toNat (.loc n 0 la2.length))) := by rw [hσ3, bt]
       refine bL (v := .ptr 0 r2.1.toNat 0) [0] [] (kf (m := g.length) rfl z3 rfl ⟨q1', by omega⟩ rfl) rfl rfl ?_; refine bL (v := V.undef) (σ' := σ4) (n' := n + 1 + 1) [0] [0] (by rw [hσ4]; exact rQ rfl rfl z3 (by rw [List.length_set, iR]; exact q3')) rfl rfl ?_; refine cu.nil' ⟨?_, ?_⟩
       · have b1 : ¬ (2 + r1.1.toNat = 0) := by omega
         have b2 : ¬ (n = 0) := by omega
         have b3 : ¬ (n ≤ 0) := by omega
         have b5 : 2 + r1.1.toNat < n + 1 := by omega
         simp [oM, rE, b1, b2, b3, b5]
       · subst hg9e; have hlen : ((g.set r1.1.toNat la2).set r2.1.toNat lb2).length = g.length := by simp
         refine Dp p3 q3' hjk hn.symm (by rw [hσ4, bt]) ?_ ?_ (fun i l hi1 hi2 hl => ?_) ⟨.d _, .d _, .l0 hlen.symm (by show ite _ _ _ = 0; rw [if_neg (by omega), if_neg (by omega)]) (by omega), .d _, .d _, .d _, trivial⟩
         · rw [hσ4, hσ3, aT _ _ (by omega), aT _ _ (by omega), hσ2, aT _ _ (by omega), aT _ _ (Ne.symm hnb), hσ1, bt]
         · rw [hσ4, hσ3, aT _ _ (by omega), aT _ _ (by omega), hσ2, bt]
         · have hil := (List.getElem?_eq_some_iff.1 hl).1; rw [hσ4, hσ3, aT _ _ (by omega), aT _ _ (by omega), hσ2, aT _ _ (by omega), aT _ _ (by omega), hσ1, aT _ _ (by omega), aT _ _ (by omega)]; exact jx hl
   · refine dL ⟨tab [(1, vi a1), (2, bn a0), (5, .loc 0 0 g9.length), (18, dA a0.Links), (19, vi (a0.Links.length : Int)), (20, vi (i2 + 1))], oG g9, 2 + g9.length⟩ ?_ ?_
     · refine step (co (cq hinv hgo hB3) rfl rfl) ?_; refine qq ?_; exact aO.nil' (f9 ⟨.d _, .d _, .loc 0 _ _ (by omega), .d _, .d _, .d _, trivial⟩)
     exact ⟨rfl, rfl⟩
 · rintro i2 g hinv hgo; have hc : ¬ (decide (i2 < (a0.Links.length : Int)) = true) := fun hq => hgo (of_decide_eq_true hq); refine aI ⟨tab [(5, .loc 0 0 g.length), (21, vb (decide (i2 < (a0.Links.length : Int))))], oG g, 2 + g.length⟩ ?_ ?_
   · refine qq ?_; exact aO.nil' (f9 ⟨.loc 0 _ _ (by omega), .d _, trivial⟩)
   refine aB ?_; refine aQ rfl hc ?_; refine d7 (s0 := ⟨tab [(5, .loc 0 0 g.length)], oG g, 2 + g.length⟩) (f9 ⟨.loc 0 _ _ (by omega), trivial⟩) ?_; refine cm ?_; exact ⟨rfl, rfl⟩
 refine aB ?_; refine aI ⟨tab [(5, .loc 0 0 z1.length), (79, vi (z1.length : Int)), (80, vi 0)], oG z1, 2 + z1.length⟩ ?_ ?_
 · refine q3 ?_; exact aO.nil' (f9 ⟨.loc 0 _ _ (by omega), .d _, .d _, trivial⟩)
 obtain ⟨z2, hl2, h⟩ := ap h; have hh := bK h; subst hh; refine bz ?_; refine fN (cB (z1.length : Int)) (fun (i2 : Int) (g : List (List Int)) => ⟨tab [(5, .loc 0 0 g.length), (79, vi (z1.length : Int)), (80, vi i2)], oG g, 2 + g.length⟩) 2 (fun (g : List (List Int)) => ⟨tab [(5, .loc 0 0 g.length)], oG g, 2 + g.length⟩) bB cC hl2 (by unfold bB; omega) ?_ ?_ ?_
 · rintro i2 g g9 hinv hgo h; have hc : decide (i2 < (z1.length : Int)) = true := decide_eq_true hgo; refine aI ⟨tab [(5, .loc 0 0 g.length), (79, vi (z1.length : Int)), (80, vi i2), (81, vb (decide (i2 < (z1.length : Int))))], oG g, 2 + g.length⟩ ?_ ?_
   · refine qq ?_; exact aO.nil' (f9 ⟨.loc 0 _ _ (by omega), .d _, .d _, .d _, trivial⟩)
   refine cE 79 rfl fun hB3 => ?_; refine aB ?_; refine aR rfl hc ?_; refine be ?_; refine gB ⟨tab [(5, .loc 0 0 g9.length), (79, vi (z1.length : Int)), (80, vi i2)], oG g9, 2 + g9.length⟩ ?_ ?_
   · refine bz ?_; obtain ⟨l, hla, h⟩ := ap h; split at h
     · rename_i hll; obtain ⟨r8, hr8, h⟩ := ap h; obtain ⟨p1, p2, p3⟩ := mG hla; obtain ⟨hg9e, _⟩ := rR h; refine aI ⟨tab [(5, .loc 0 0 g.length), (12, vi i2), (79, vi (z1.length : Int)), (80, vi i2)], oG g, 2 + g.length⟩ ?_ ?_
       · refine q2 ?_; exact aO.nil' (f9 ⟨.loc 0 _ _ (by omega), .d _, .d _, .d _, trivial⟩)
       have hset1 : (g.set i2.toNat (cZ l)).length = g.length := by simp
       have hs5 : (cZ l).length = l.length := (j8 l).length_eq; have gs : (g.set i2.toNat (cZ l))[i2.toNat]? = some (cZ l) := by rw [List.getElem?_set_self p3]
       refine aI ⟨tab [(5, .loc 0 0 (g.set i2.toNat (cZ l)).length), (12, vi i2), (79, vi (z1.length : Int)), (80, vi i2)], oG (g.set i2.toNat (cZ l)), 2 + (g.set i2.toNat (cZ l)).length⟩ ?_ ?_
       · refine q2 ?_; refine step (kf (m := g.length) rfl (show oG g 0 = some (.var (cP 2 g)) from rfl) rfl ⟨p1, by omega⟩ rfl) ?_; refine step (oV (g := g) rfl (show oG g 0 = some (.var (cP 2 g)) from rfl) (by rw [iQ, p2]; rfl)) ?_; refine lK (v := .d (.tup [])) (σ' := am (am (oG g) (2 + i2.toNat) none) (2 + i2.toNat) (some (.lst true none ((cZ l).map (D.int .i64))))) (n' := 2 + g.length) (nf [2 + i2.toNat] (BL (by omega)) (show 1 ≤ 1 by decide) (by simp) (by intro q hq; simp at hq; omega) (nv (show 0 < 1 by decide) nw) (dl.c (.loc 0 _ _ (by show 0 < 1; decide)) dl.nil0) (SN.c (by show 0 < 1; decide) (jx p2) (.lst _ _ _) SN.nil0)) (Nat.le_refl _) ?_; refine aO.nil' (wg (m := 2 + i2.toNat) p3 (.inl rfl) ?_ (bt _ _ _) (fun i l' hi hl' => ?_) ⟨.l0 hset1.symm (by show ite _ _ _ = 0; rw [if_neg (by omega)]) (by omega), .d _, .d _, .d _, trivial⟩)
         · rw [aT _ _ (by omega), aT _ _ (by omega)]; show some (bh.var (cP 2 g)) = _; congr 2; apply List.ext_getElem?; intro i; rw [List.getElem?_set, iR]; by_cases e : i2.toNat = i
           · subst e; rw [if_pos rfl, if_pos p3, iQ, p2, hs5]; rfl
           · rw [if_neg e]
         · rw [aT _ _ (by omega), aT _ _ (by omega)]; exact jx hl'
       have p3' : i2.toNat < (g.set i2.toNat (cZ l)).length := by rw [hset1]; exact p3
       have hss : (g.set i2.toNat (cZ l)).set i2.toNat r8 = g9 := by rw [hg9e, List.set_set]
       have hset2 : g9.length = (g.set i2.toNat (cZ l)).length := by rw [← hss]; simp
       clear hg9e h hla p2 hset1; generalize g.set i2.toNat (cZ l) = g3 at *; refine dL ⟨tab [(5, .loc 0 0 g9.length), (79, vi (z1.length : Int)), (80, vi i2)], oG g9, 2 + g9.length⟩ ?_ (And.intro rfl rfl); refine q4 ?_; refine step (kf (m := g3.length) rfl (show oG g3 0 = some (.var (cP 2 g3)) from rfl) rfl ⟨p1, by omega⟩ rfl) ?_; refine step (oV (g := g3) rfl (show oG g3 0 = some (.var (cP 2 g3)) from rfl) (by rw [iQ, gs]; rfl)) ?_; refine lK (v := .loc (2 + i2.toNat) 0 r8.length) (σ' := am (am (oG g3) (2 + i2.toNat) none) (2 + i2.toNat) (some (.lst true none (r8.map (D.int .i64))))) (n' := 2 + g3.length) (nf [2 + i2.toNat] (Dn hr8) (show 1 ≤ 1 by decide) (by simp) (by intro q hq; simp at hq; omega) (nv (show 0 < 1 by decide) nw) (dl.c (.loc 0 _ _ (by show 0 < 1; decide)) dl.nil0) (SN.c (by show 0 < 1; decide) (jx gs) (.lst _ _ _) SN.nil0)) (Nat.le_refl _) ?_; have y0 : am (am (oG g3) (2 + i2.toNat) none) (2 + i2.toNat) (some (.lst true none (r8.map (D.int .i64)))) 0 = some (.var (cP 2 g3)) := by rw [aT _ _ (by omega), aT _ _ (by omega)]; rfl
       refine step (kf (m := g3.length) rfl y0 rfl ⟨p1, by omega⟩ rfl) ?_; refine step (rQ rfl rfl y0 (by rw [iR]; exact p3')) ?_; subst hss; refine aO.nil' (wg (m := 2 + i2.toNat) p3' (.inl rfl) (bt _ _ _) ?_ (fun i l' hi hl' => ?_) ⟨.l0 hset2.symm (by show ite _ _ _ = 0; rw [if_neg (by omega)]) (by omega), .d _, .d _, trivial⟩)
       · rw [aT _ _ (by omega), bt]
       · rw [aT _ _ (by omega), aT _ _ (by omega), aT _ _ (by omega)]; exact jx hl'
     · cases h
   · refine dL ⟨tab [(5, .loc 0 0 g9.length), (79, vi (z1.length : Int)), (80, vi (i2 + 1))], oG g9, 2 + g9.length⟩ ?_ ?_
     · refine step (co (cq hinv hgo hB3) rfl rfl) ?_; refine qq ?_; exact aO.nil' (f9 ⟨.loc 0 _ _ (by omega), .d _, .d _, trivial⟩)
     exact And.intro rfl rfl
 · rintro i2 g hinv hgo; have hc : ¬ (decide (i2 < (z1.length : Int)) = true) := fun hq => hgo (of_decide_eq_true hq); refine aI ⟨tab [(5, .loc 0 0 g.length), (81, vb (decide (i2 < (z1.length : Int))))], oG g, 2 + g.length⟩ ?_ ?_
   · refine qq ?_; exact aO.nil' (f9 ⟨.loc 0 _ _ (by omega), .d _, trivial⟩)
   refine aB ?_; refine aQ rfl hc ?_; refine d7 (s0 := ⟨tab [(5, .loc 0 0 g.length)], oG g, 2 + g.length⟩) (f9 ⟨.loc 0 _ _ (by omega), trivial⟩) ?_; refine cm ?_; exact And.intro rfl rfl
 refine aI ⟨tab [(4, .loc 0 0 z2.length)], oG z2, 2 + z2.length⟩ ?_ ?_
 · refine q2 ?_; exact aO.nil' (f9 ⟨.loc 0 _ _ (by omega), trivial⟩)
 refine aZ ?_; refine bH (.inr rfl) (aL (v := .loc 0 0 z2.length) rfl rfl) ?_; refine Bu (show oG z2 0 = some (.var (cP 2 z2)) from rfl) (by rw [iR]) BE ?_ (by trivial); rw [List.all_eq_true]; intro d hd; obtain ⟨l, _, rfl⟩ := List.mem_map.1 hd; rfl
theorem rS {a0 : (List (List Int))} {a1 : Int} {r : Bool} (h : jd a0 a1 = some r) : PCall Try.prog 116 [eL none (eL none (D.int .i64)) a0, .int .i64 a1] (.bool r) := by
 refine PCall.inW B4 ?_; refine al ?_; refine qq ?_; refine nI ?_; refine aI ⟨tab [(4, vb ((decide (a1 ≥ 0)) && (decide (a1 < (a0.length : Int)))))], ai [], 0⟩ ?_ ?_
 · refine q3 ?_; by_cases hg1 : decide (a1 ≥ 0) = true
   · refine gq hg1 ?_; refine gq hg1 ?_; refine qG _ hg1 ?_; refine step (bF (xs := a0) (e := (eL none (D.int .i64))) rfl) ?_; refine gq hg1 ?_; refine step (bp rfl hg1 rfl) ?_; refine qq ?_; exact aO.nil' (nm [] ⟨.eq (by first | (simp [hg1]; done) | (simp_all; done) | grind), trivial⟩ trivial)
   · (iterate 4 refine gX hg1 ?_); refine step (bv rfl hg1 rfl) ?_; refine qq ?_; exact aO.nil' (nm [] ⟨.eq (by first | (simp [hg1]; done) | (simp_all; done) | grind), trivial⟩ trivial)
 cases sj h; refine aZ ?_; exact bH (.inr rfl) (aL rfl rfl) (RV.d trivial)
@[reducible] def fS (g : List D) (d q : List Int) : aH := ai [(0, .lst true none (List.map (D.int .i64) d)), (1, .lst false none (g ++ List.map (D.int .i64) q))]
theorem Dv {T : Nat → V} {n : Nat} {x y : AX} {g : List D} {d q : List Int} {i : Int} {k : Int} (hx : aC T x = .loc 1 g.length q.length) (hy : aC T y = vi i) (h : bd q i = some k) : aD (.iaddr none x y) (aC T) (fS g d q) n = some (.ptr 1 (g.length + i.toNat) 0, fS g d q, n) := by
 obtain ⟨h1, _, h3⟩ := mG h; have hk : cG (fS g d q) (.loc 1 g.length q.length) = some none := rfl; simp only [aD, hx, hy, hk]; rw [if_pos ⟨trivial, h1, by omega⟩]
theorem Dw {T : Nat → V} {n : Nat} {x : AX} {g : List D} {d q : List Int} {i : Int} {k : Int} (hx : aC T x = .ptr 1 (g.length + i.toNat) 0) (h : bd q i = some k) : aD (.load none x) (aC T) (fS g d q) n = some (vi k, fS g d q, n) := by
 obtain ⟨h1, h2, h3⟩ := mG h
 have e : (g ++ List.map (D.int .i64) q)[g.length + i.toNat]? = some (.int .i64 k) := by
  rw [List.getElem?_append_right (by omega), Nat.add_sub_cancel_left, List.getElem?_map, h2]; rfl
 have e2 : cT (fS g d q) none (.ptr 1 (g.length + i.toNat) 0) = some (vi k) := by
  show (match (g ++ List.map (D.int .i64) q)[g.length + i.toNat]? with | some d => (fx none d 0 none).map V.d | none => none) = _
  rw [e]; rfl
 simp [aD, hx, e2]
theorem Dx {T : Nat → V} {n : Nat} {x : AX} {g : List D} {d q q2 : List Int} (hx : aC T x = .loc 1 g.length q.length) (h : d8 q 1 (q.length : Int) = some q2) : aD (.slc none x (some (.c (.int .i64 1))) none) (aC T) (fS g d q) n = some (.loc 1 (g.length + 1) q2.length, fS g d q, n) := by
 unfold d8 at h; split at h
 · rename_i hc; cases h; have hk : cG (fS g d q) (.loc 1 g.length q.length) = some none := rfl
   have hb : fd q.length ((some (AX.c (.int .i64 1))).map (aC T)) (Option.map (aC T) none) = some (1, q.length) := by
    have h1 : (1 : Int) ≤ q.length := by omega
    simp [fd, aC, gL, h1]
   simp only [aD, hx, hk, hb, if_true]; have : List.length (List.take ((q.length : Int).toNat - Int.toNat 1) (List.drop (Int.toNat 1) q)) = q.length - 1 := by simp
   rw [this]
 · cases h
theorem Dy {q q2 : List Int} (h : d8 q 1 (q.length : Int) = some q2) : ∃ x, q = x :: q2 := by
 unfold d8 at h; split at h
 · rename_i hc; cases h; cases q with
   | nil => simp at hc; | cons x q => exact ⟨x, by simp⟩
 · cases h
def Dz : bC :=
 (.seq (.ops false [
  ⟨some 17, .bin .lss (.t 16) (.t 15), none⟩])
  (.seq (.cond (.t 17)
   (.skip)
   (.exit 0))
  (.seq (.block 1 (.seq (.ops false [
   ⟨some 18, .mov (.t 16), none⟩,
   ⟨some 6, .mov (.t 18), none⟩])
   (.ops false [
    ⟨some 19, .mov (.t 5), none⟩,
    ⟨some 20, .mov (.t 6), none⟩,
    ⟨some 21, .iaddr none (.t 19) (.t 20), none⟩,
    ⟨none, .store none (.t 21) (.c (.int .i64 (-1))), none⟩])))
  (.ops false [
   ⟨some 22, .bin .add (.t 16) (.c (.int .i64 1)), none⟩,
   ⟨some 16, .mov (.t 22), none⟩]))))
def DA : bC :=
 (.seq (.ops false [
  ⟨some 47, .bin .lss (.t 46) (.t 45), none⟩])
  (.seq (.cond (.t 47)
   (.skip)
   (.exit 4))
  (.seq (.block 5 (.seq (.ops false [
   ⟨some 48, .iaddr none (.t 44) (.t 46), none⟩,
   ⟨some 49, .load none (.t 48), none⟩,
   ⟨some 10, .mov (.t 49), none⟩])
   (.seq (.ops false [
    ⟨some 50, .mov (.t 5), none⟩,
    ⟨some 51, .mov (.t 10), none⟩,
    ⟨some 52, .iaddr none (.t 50) (.t 51), none⟩,
    ⟨some 53, .load none (.t 52), none⟩,
    ⟨some 54, .bin .lss (.t 53) (.c (.int .i64 0)), none⟩])
   (.cond (.t 54)
   (.seq (.ops false [
    ⟨some 55, .mov (.t 5), none⟩,
    ⟨some 56, .mov (.t 10), none⟩,
    ⟨some 57, .mov (.t 5), none⟩,
    ⟨some 58, .mov (.t 8), none⟩,
    ⟨some 59, .iaddr none (.t 57) (.t 58), none⟩,
    ⟨some 60, .load none (.t 59), none⟩,
    ⟨some 61, .bin .add (.t 60) (.c (.int .i64 1)), none⟩,
    ⟨some 62, .iaddr none (.t 55) (.t 56), none⟩,
    ⟨none, .store none (.t 62) (.t 61), none⟩])
    (.ops false [
     ⟨some 63, .mov (.t 7), none⟩,
     ⟨some 64, .mov (.t 10), none⟩,
     ⟨some 65, .bsliceI none [(.t 64)], none⟩,
     ⟨some 66, .append none (.t 63) (.t 65) false, none⟩,
     ⟨some 7, .mov (.t 66), none⟩]))
   (.skip)))))
  (.ops false [
   ⟨some 67, .bin .add (.t 46) (.c (.int .i64 1)), none⟩,
   ⟨some 46, .mov (.t 67), none⟩]))))
def DB : bC :=
 (.seq (.seq (.ops false [
  ⟨some 33, .mov (.t 7), none⟩,
  ⟨some 34, .len (.t 33), none⟩,
  ⟨some 35, .bin .gtr (.t 34) (.c (.int .i64 0)), none⟩])
  (.cond (.t 35)
  (.skip)
  (.exit 2)))
  (.seq (.block 3 (.seq (.ops false [
   ⟨some 38, .mov (.t 7), none⟩,
   ⟨some 39, .iaddr none (.t 38) (.c (.int .i64 0)), none⟩,
   ⟨some 40, .load none (.t 39), none⟩,
   ⟨some 8, .mov (.t 40), none⟩])
   (.seq (.ops false [
    ⟨some 41, .mov (.t 0), none⟩,
    ⟨some 42, .mov (.t 8), none⟩,
    ⟨some 43, .iaddr none (.t 41) (.t 42), none⟩,
    ⟨some 44, .load none (.t 43), none⟩,
    ⟨some 45, .len (.t 44), none⟩,
    ⟨some 46, .mov (.c (.int .i64 0)), none⟩])
   (.block 4 (.loop DA)))))
  (.ops false [
   ⟨some 36, .mov (.t 7), none⟩,
   ⟨some 37, .slc none (.t 36) (some (.c (.int .i64 1))) none, none⟩,
   ⟨some 7, .mov (.t 37), none⟩])))
def DC : bR := .mk 69
 (.seq (.ops false [
  ⟨some 4, .mov (.c (.vec none [])), none⟩])
  (.seq (.ops false [
   ⟨some 11, .mov (.t 0), none⟩,
   ⟨some 12, .len (.t 11), none⟩,
   ⟨some 13, .mkslice none (.int .i64 0) (.t 12) (.t 12), none⟩,
   ⟨some 5, .mov (.t 13), none⟩])
  (.seq (.seq (.ops false [
   ⟨some 14, .mov (.t 5), none⟩,
   ⟨some 15, .len (.t 14), none⟩,
   ⟨some 16, .mov (.c (.int .i64 0)), none⟩])
   (.block 0 (.loop Dz)))
  (.seq (.seq (.ops false [
   ⟨some 23, .mov (.t 0), none⟩,
   ⟨some 24, .mov (.t 1), none⟩,
   ⟨some 25, .call false 116 [(.t 23), (.t 24)], none⟩,
   ⟨some 26, .un .not (.t 25), none⟩])
   (.cond (.t 26)
   (.seq (.ops false [
    ⟨some 27, .mov (.t 5), none⟩,
    ⟨some 4, .mov (.t 27), none⟩])
    (.ret))
   (.skip)))
  (.seq (.ops false [
   ⟨some 28, .mov (.t 5), none⟩,
   ⟨some 29, .mov (.t 1), none⟩,
   ⟨some 30, .iaddr none (.t 28) (.t 29), none⟩,
   ⟨none, .store none (.t 30) (.c (.int .i64 0)), none⟩])
  (.seq (.seq (.ops false [
   ⟨some 31, .mov (.t 1), none⟩,
   ⟨some 32, .bslice none [(.t 31)] false, none⟩,
   ⟨some 7, .mov (.t 32), none⟩])
   (.block 2 (.loop DB)))
  (.seq (.ops false [
   ⟨some 68, .mov (.t 5), none⟩,
   ⟨some 4, .mov (.t 68), none⟩])
  (.ret))))))))
 [.t 4]
theorem DD {a0 : (List (List Int))} {a1 : Int} {r : (List Int)} (h : nG a0 a1 = some r) : PCall Try.prog 117 [eL none (eL none (D.int .i64)) a0, .int .i64 a1] (eL none (D.int .i64) r) := by
 refine PCall.inW DC ?_; refine al ?_; refine qq ?_; refine nI ?_; obtain ⟨l5, hl5, h⟩ := ap h; refine aI ⟨tab [(0, .d (eL none (eL none (D.int .i64)) a0)), (1, vi a1), (5, .loc 0 0 l5.length)], ai (eS l5), 1⟩ ?_ ?_
 · refine qq ?_; refine step (bF (xs := a0) (e := (eL none (D.int .i64))) rfl) ?_; refine step (yO (e := (D.int .i64)) (z := 0) hl5 rfl rfl (tN hl5)) ?_; refine qq ?_; exact nR [0]
 refine aB ?_; refine al ?_; refine q3 ?_; refine nT [(0, .d (eL none (eL none (D.int .i64)) a0)), (1, vi a1), (5, .loc 0 0 l5.length), (15, vi (l5.length : Int)), (16, vi 0)] ?_; obtain ⟨z15, hl, h⟩ := ap h; refine bz ?_; refine fN (cB (l5.length : Int)) (fun (i7 : Int) (qq : (List Int)) => ⟨tab [(0, .d (eL none (eL none (D.int .i64)) a0)), (1, vi a1), (5, .loc 0 0 qq.length), (15, vi (l5.length : Int)), (16, vi i7)], ai (eS qq), 1⟩) 0 (fun (qq : (List Int)) => ⟨tab [(0, .d (eL none (eL none (D.int .i64)) a0)), (1, vi a1), (5, .loc 0 0 qq.length)], ai (eS qq), 1⟩) bB cC hl (by unfold bB; omega) ?_ ?_ ?_
 · rintro i7 l6 xr12 hinv10 hgo9 h; have hc11 := dy hgo9; refine al ?_; refine qq ?_; refine nI ?_; refine cE 15 rfl fun hB8 => ?_; refine aB ?_; refine aR rfl hc11 ?_; refine be ?_; refine aB ?_; refine bz ?_; refine al ?_; refine q2 ?_; refine nI ?_; obtain ⟨x13, hx13, h⟩ := ap h; obtain ⟨l14, hl14, h⟩ := ap h; refine dL ⟨tab [(0, .d (eL none (eL none (D.int .i64)) a0)), (1, vi a1), (5, .loc 0 0 l14.length), (15, vi (l5.length : Int)), (16, vi i7)], ai (eS l14), 1⟩ ?_ ?_
   · refine q2 ?_; refine step (iG (xs := l6) (e := (D.int .i64)) hx13 rfl rfl rfl rfl) ?_; refine step (np (e := (D.int .i64)) (v' := (-1)) hl14 rfl rfl rfl rfl rfl) ?_; exact aO.nil' (nm [0] ⟨.d _, .d _, .le (id := 0) (nn hl14).symm (show 0 < 1 by decide), .d _, .d _, trivial⟩ ⟨⟨show 0 < 1 by decide, _, rfl, .lst _ _ _⟩, trivial⟩)
   cases sj h; refine b9 (And.intro rfl rfl) ?_; refine step (co (cq hinv10 hgo9 hB8) rfl rfl) ?_; refine qq ?_; exact nR [0]
 · rintro i7 l6 hinv10 hgo9; have hc11 := dn hgo9; refine al ?_; refine qq ?_; refine nI ?_; refine aB ?_; refine aQ rfl hc11 ?_; refine b8 [(0, .d (eL none (eL none (D.int .i64)) a0)), (1, vi a1), (5, .loc 0 0 l6.length)] ?_; refine cm ?_; exact ⟨rfl, rfl⟩
 refine aB ?_; obtain ⟨r2, hr2, h⟩ := ap h; refine aB ?_; refine dL ⟨tab [(0, .d (eL none (eL none (D.int .i64)) a0)), (1, vi a1), (5, .loc 0 0 z15.length), (26, vb (!r2))], ai (eS z15), 1⟩ ?_ ?_
 · refine q2 ?_; refine bQ (aP (aP bk.nil')) (rS hr2) ?_; refine qq ?_; exact nR [0]
 by_cases hc : (!r2) = true
 · replace h := aW hc h; refine aR rfl hc ?_; refine aI ⟨tab [(4, .loc 0 0 z15.length)], ai (eS z15), 1⟩ ?_ ?_
   · refine q2 ?_; exact nR [0]
   cases sj h; refine aZ ?_; exact bH (.inr rfl) (aL rfl rfl) (RV.loc rfl (by simp) trivial)
 replace h := aX hc h; refine aQ rfl hc ?_; refine be ?_; obtain ⟨x16, hx16, h⟩ := ap h; obtain ⟨l17, hl17, h⟩ := ap h; refine aI ⟨tab [(0, .d (eL none (eL none (D.int .i64)) a0)), (1, vi a1), (5, .loc 0 0 l17.length)], ai (eS l17), 1⟩ ?_ ?_
 · refine q2 ?_; refine step (iG (xs := z15) (e := (D.int .i64)) hx16 rfl rfl rfl rfl) ?_; refine step (np (e := (D.int .i64)) (v' := 0) hl17 rfl rfl rfl rfl rfl) ?_; exact aO.nil' (nm [0] ⟨.d _, .d _, .le (id := 0) (nn hl17).symm (show 0 < 1 by decide), trivial⟩ ⟨⟨show 0 < 1 by decide, _, rfl, .lst _ _ _⟩, trivial⟩)
 refine aB ?_; refine aI ⟨tab [(0, .d (eL none (eL none (D.int .i64)) a0)), (5, .loc 0 0 l17.length), (7, .loc 1 0 1)], fS [] l17 [a1], 2⟩ ?_ ?_
 · refine q3 ?_; exact nR [0, 1]
 obtain ⟨⟨z, zq⟩, hl2, h⟩ := ap h; cases sj h; refine bz ?_; refine Bz (γ := List D) (fun (g : List D) (s : List Int × List Int) => ⟨tab [(0, .d (eL none (eL none (D.int .i64)) a0)), (5, .loc 0 0 s.1.length), (7, .loc 1 g.length s.2.length)], fS g s.1 s.2, 2⟩) 2 (fun (g : List D) (s : List Int × List Int) => ⟨tab [(5, .loc 0 0 s.1.length)], ai (eS s.1), 1⟩) (g := []) hl2 ?_ ?_
 · rintro g ⟨d, q⟩ x h; refine aB ?_; refine aB ?_; refine dL ⟨tab [(0, .d (eL none (eL none (D.int .i64)) a0)), (5, .loc 0 0 d.length), (7, .loc 1 g.length q.length), (35, vb (decide ((q.length : Int) > 0)))], fS g d q, 2⟩ ?_ ?_
   · refine q3 ?_; exact nR [0, 1]
   by_cases hc : decide ((q.length : Int) > 0) = true
   · replace h := aW hc h; refine aR rfl hc ?_; refine be ?_; obtain ⟨xh, hxh, h⟩ := ap h; obtain ⟨l, hll, h⟩ := ap h; obtain ⟨⟨d2, q2⟩, hl3, h⟩ := ap h; obtain ⟨q3, hq3, h⟩ := ap h; cases sj h; refine aB ?_; refine bz ?_; refine aI ⟨tab [(0, .d (eL none (eL none (D.int .i64)) a0)), (5, .loc 0 0 d.length), (7, .loc 1 g.length q.length), (8, vi xh)], fS g d q, 2⟩ ?_ ?_
     · refine qq ?_; refine step (Dv rfl rfl hxh) ?_; refine step (Dw rfl hxh) ?_; refine qq ?_; exact nR [0, 1]
     refine aI ⟨tab [(0, .d (eL none (eL none (D.int .i64)) a0)), (5, .loc 0 0 d.length), (7, .loc 1 g.length q.length), (8, vi xh), (44, cM l), (45, vi (l.length : Int)), (46, vi 0)], fS g d q, 2⟩ ?_ ?_
     · (iterate 2 refine q1 _ ?_); refine step (bV (xs := a0) (e := (eL none (D.int .i64))) hll rfl rfl) ?_; refine q1 _ ?_; refine step (bF (xs := l) (e := (D.int .i64)) rfl) ?_; refine q1 _ ?_; exact nR [0, 1]
     refine bz ?_; refine BA (γ := List D) (cB (l.length : Int)) (fun (g : List D) (i : Int) (s : List Int × List Int) => ⟨tab [(0, .d (eL none (eL none (D.int .i64)) a0)), (5, .loc 0 0 s.1.length), (7, .loc 1 g.length s.2.length), (8, vi xh), (44, cM l), (45, vi (l.length : Int)), (46, vi i)], fS g s.1 s.2, 2⟩) 4 (fun (g : List D) (s : List Int × List Int) => ⟨tab [(0, .d (eL none (eL none (D.int .i64)) a0)), (5, .loc 0 0 s.1.length), (7, .loc 1 g.length s.2.length)], fS g s.1 s.2, 2⟩) bB cC (g := g) hl3 (by unfold bB; omega) ?_ ?_ ?_
     · rintro g i ⟨d, q⟩ ⟨d9, q9⟩ hinv hgo h; have hci : decide (i < (l.length : Int)) = true := decide_eq_true hgo; refine aI ⟨tab [(0, .d (eL none (eL none (D.int .i64)) a0)), (5, .loc 0 0 d.length), (7, .loc 1 g.length q.length), (8, vi xh), (44, cM l), (45, vi (l.length : Int)), (46, vi i), (47, vb (decide (i < (l.length : Int))))], fS g d q, 2⟩ ?_ ?_
       · refine qq ?_; exact nR [0, 1]
       refine cE 45 rfl fun hB => ?_; refine aB ?_; refine aR rfl hci ?_; refine be ?_; obtain ⟨k, hk, h⟩ := ap h; obtain ⟨dk, hdk, h⟩ := ap h
       have tailR : ∀ (g2 : List D), bD Try.prog 69 0 (.ops false [oo 67 (.bin .add (.t 46) (ci 1)), oo 46 (.mov (.t 67))]) (fun e s' => e = .normal ∧ ∃ g3 : List D, s' = (⟨tab [(0, .d (eL none (eL none (D.int .i64)) a0)), (5, .loc 0 0 d9.length), (7, .loc 1 g3.length q9.length), (8, vi xh), (44, cM l), (45, vi (l.length : Int)), (46, vi (i + 1))], fS g3 d9 q9, 2⟩ : S)) ⟨tab [(0, .d (eL none (eL none (D.int .i64)) a0)), (5, .loc 0 0 d9.length), (7, .loc 1 g2.length q9.length), (8, vi xh), (44, cM l), (45, vi (l.length : Int)), (46, vi i)], fS g2 d9 q9, 2⟩ := by
        intro g2
        refine dL ⟨tab [(0, .d (eL none (eL none (D.int .i64)) a0)), (5, .loc 0 0 d9.length), (7, .loc 1 g2.length q9.length), (8, vi xh), (44, cM l), (45, vi (l.length : Int)), (46, vi (i + 1))], fS g2 d9 q9, 2⟩ ?_ ⟨rfl, g2, rfl⟩
        refine step (co (cq hinv hgo hB) rfl rfl) ?_
        refine qq ?_
        exact nR [0, 1]
       refine aB ?_; refine bz ?_; refine aI ⟨tab [(0, .d (eL none (eL none (D.int .i64)) a0)), (5, .loc 0 0 d.length), (7, .loc 1 g.length q.length), (8, vi xh), (10, vi k), (44, cM l), (45, vi (l.length : Int)), (46, vi i)], fS g d q, 2⟩ ?_ ?_
       · refine step (bV (xs := l) (e := (D.int .i64)) hk rfl rfl) ?_; (iterate 2 refine q1 _ ?_); exact nR [0, 1]
       refine aI ⟨tab [(0, .d (eL none (eL none (D.int .i64)) a0)), (5, .loc 0 0 d.length), (7, .loc 1 g.length q.length), (8, vi xh), (10, vi k), (44, cM l), (45, vi (l.length : Int)), (46, vi i), (54, vb (decide (dk < 0)))], fS g d q, 2⟩ ?_ ?_
       · (iterate 2 refine q1 _ ?_); refine step (iG (xs := d) (e := (D.int .i64)) hdk rfl rfl rfl rfl) ?_; refine step (ja (xs := d) (e := (D.int .i64)) hdk rfl rfl rfl) ?_; refine q1 _ ?_; exact nR [0, 1]
       by_cases hck : decide (dk < 0) = true
       · replace h := aW hck h; obtain ⟨dx, hdx, h⟩ := ap h; obtain ⟨d3, hd3, h⟩ := ap h; obtain ⟨q4, hq4, h⟩ := ap h; obtain ⟨rfl, rfl⟩ := Prod.mk.inj (bK h); refine aR rfl hck ?_; have hkd : bd d k = some dk := hdk; refine aI ⟨tab [(0, .d (eL none (eL none (D.int .i64)) a0)), (5, .loc 0 0 d3.length), (7, .loc 1 g.length q.length), (8, vi xh), (10, vi k), (44, cM l), (45, vi (l.length : Int)), (46, vi i)], fS g d3 q, 2⟩ ?_ ?_
         · (iterate 4 refine q1 _ ?_); refine step (iG (xs := d) (e := (D.int .i64)) hdx rfl rfl rfl rfl) ?_; refine step (ja (xs := d) (e := (D.int .i64)) hdx rfl rfl rfl) ?_; refine q1 _ ?_; refine step (iG (xs := d) (e := (D.int .i64)) hdk rfl rfl rfl rfl) ?_; refine step (np (e := (D.int .i64)) (v' := (IntKind.i64.wrap (dx + 1))) hd3 rfl rfl rfl rfl rfl) ?_; exact aO.nil' (nm [0, 1] ⟨.d _, .le (id := 0) (nn hd3).symm (show 0 < 2 by decide), .lc 1, .d _, .d _, .d _, .d _, .d _, trivial⟩ ⟨⟨show 0 < 2 by decide, _, rfl, .lst _ _ _⟩, ⟨show 1 < 2 by decide, _, rfl, .lst _ _ _⟩, trivial⟩)
         have hq5 : q4 = q ++ [k] ∧ q.length + 1 ≤ 4294967296 := by
          unfold c6 at hq4
          split at hq4
          ·
           rename_i hle; cases hq4; exact ⟨rfl, hle⟩
          ·
           cases hq4
         obtain ⟨rfl, hle⟩ := hq5; refine By ?_; refine .inl (q1 _ (aO.nil' ?_)); refine .inl (q1 _ (aO.nil' ?_)); refine .inl (q1 (.d (.vec none [.int .i64 k])) (aO.nil' ?_)); refine .inr ⟨rfl, none, .t 63, .t 65, false, 1, g.length, q.length, false, g ++ List.map (D.int .i64) q, [.int .i64 k], rfl, rfl, rfl, by simp, by simp [fc, fy, cG, d5, aC, bu, am], by simpa [fG] using hle, fun g2 => ?_⟩; refine .inl (q1 (.loc 2 g2.length (q.length + 1)) (aO.nil' ?_)); refine ⟨⟨tab [(0, .d (eL none (eL none (D.int .i64)) a0)), (5, .loc 0 0 d3.length), (7, .loc 1 g2.length (q ++ [k]).length), (8, vi xh), (44, cM l), (45, vi (l.length : Int)), (46, vi i)], fS g2 d3 (q ++ [k]), 2⟩, ?_, tailR g2⟩; have e1 : List.drop g.length (g ++ List.map (D.int .i64) q) ++ [D.int .i64 k] = List.map (D.int .i64) (q ++ [k]) := by simp
         rw [e1]; have e2 : (q ++ [k]).length = q.length + 1 := by simp
         rw [e2]; exact nr [0, 2]
       · replace h := aX hck h; obtain ⟨rfl, rfl⟩ := Prod.mk.inj (bK h); refine aQ rfl hck ?_; refine d7 (s0 := ⟨tab [(0, .d (eL none (eL none (D.int .i64)) a0)), (5, .loc 0 0 d.length), (7, .loc 1 g.length q.length), (8, vi xh), (44, cM l), (45, vi (l.length : Int)), (46, vi i)], fS g d q, 2⟩) (nr [0, 1]) ?_; refine be ?_; exact tailR g
     · rintro g i ⟨d, q⟩ hinv hgo; have hci : ¬ (decide (i < (l.length : Int)) = true) := fun hq => hgo (of_decide_eq_true hq); refine aI ⟨tab [(0, .d (eL none (eL none (D.int .i64)) a0)), (5, .loc 0 0 d.length), (7, .loc 1 g.length q.length), (47, vb (decide (i < (l.length : Int))))], fS g d q, 2⟩ ?_ ?_
       · refine qq ?_; exact nR [0, 1]
       refine aB ?_; refine aQ rfl hci ?_; refine d7 (s0 := ⟨tab [(0, .d (eL none (eL none (D.int .i64)) a0)), (5, .loc 0 0 d.length), (7, .loc 1 g.length q.length)], fS g d q, 2⟩) (nr [0, 1]) ?_; refine cm ?_; exact ⟨rfl, rfl⟩
     intro g2; obtain ⟨xq, hxq⟩ := Dy hq3; refine dL ⟨tab [(0, .d (eL none (eL none (D.int .i64)) a0)), (5, .loc 0 0 d2.length), (7, .loc 1 (g2 ++ [D.int .i64 xq]).length q3.length)], fS (g2 ++ [D.int .i64 xq]) d2 q3, 2⟩ ?_ ⟨rfl, _, rfl⟩; refine qq ?_; refine step (Dx rfl hq3) ?_; refine qq ?_; have e1 : g2 ++ List.map (D.int .i64) q2 = (g2 ++ [D.int .i64 xq]) ++ List.map (D.int .i64) q3 := by rw [hxq]; simp
     have e2 : (g2 ++ [D.int .i64 xq]).length = g2.length + 1 := by simp
     rw [e2]; refine aO.nil' (nm [0, 1] ⟨.d _, .lc 0, .lc 1, trivial⟩ ⟨⟨show 0 < 2 by decide, _, rfl, .lst _ _ _⟩, ⟨show 1 < 2 by decide, _, rfl, ?_⟩, trivial⟩); rw [e1]; exact .lst _ _ _
   · replace h := aX hc h; cases sj h; refine aQ rfl hc ?_; refine d7 (s0 := ⟨tab [(5, .loc 0 0 d.length)], ai (eS d), 1⟩) (nr [0]) ?_; refine cm ?_; exact ⟨rfl, g, rfl⟩
 intro g2; refine al ?_; refine q2 ?_; refine nI ?_; refine aZ ?_; exact bH (.inr rfl) (aL rfl rfl) (RV.loc rfl (by simp) trivial)
theorem DE {a0 : Int} {a1 : (List Int)} {a2 : Int} {r : Bool} (h : nH a0 a1 a2 = some r) : PCall Try.prog 119 [.int .i64 a0, .cptr none (eL none (D.int .i64) a1) 0, .cptr none (.int .i64 a2) 0] (.bool r) := by
 refine PCall.inW B5 ?_; refine al ?_; refine qq ?_; refine nI ?_; obtain ⟨x1, hx1, h⟩ := ap h; obtain ⟨x2, hx2, h⟩ := ap h; refine al ?_; refine q2 ?_; refine step (bV (xs := a1) (e := (D.int .i64)) hx1 rfl rfl) ?_; refine q3 ?_; refine step (bV (xs := a1) (e := (D.int .i64)) hx2 rfl rfl) ?_; refine q4 ?_; refine nI ?_; cases sj h; refine aZ ?_; exact bH (.inr rfl) (aL rfl rfl) (RV.d trivial)
theorem DF {a0 : (List Int)} {a1 : Int → Option Bool} {g_a1 : D} (hf_a1 : pQ Try.prog g_a1 (D.int .i64) D.bool a1) {r : Int} (h : nJ a0 a1 = some r) : PCall Try.prog 118 [eL none (D.int .i64) a0, g_a1] (.int .i64 r) := by
 obtain ⟨fn_a1, cap_a1, rfl, hc_a1⟩ := hf_a1; refine PCall.inW B7 ?_; refine al ?_; refine qq ?_; refine nI ?_; refine aB ?_; refine al ?_; refine qq ?_; refine step (bF (xs := a0) (e := (D.int .i64)) rfl) ?_; refine qq ?_; refine nT [(0, cM a0), (1, .d (.func fn_a1 cap_a1)), (7, vi (a0.length : Int)), (8, vi 0)] ?_; obtain ⟨q10, hl, h⟩ := ap h; refine bz ?_; refine dG (cB (a0.length : Int)) (fun (i1 : Int) (qq : Unit) => ⟨tab [(0, cM a0), (1, .d (.func fn_a1 cap_a1)), (7, vi (a0.length : Int)), (8, vi i1)], ai [], 0⟩) 0 (fun (qq : Unit) => ⟨tab [], ai [], 0⟩) bB cC (r := r) hl (by unfold bB; omega) ?_ ?_ ?_ ?_
 · rintro i1 ⟨⟩ xr6 hinv4 hgo3 h; have hc5 := dy hgo3; refine al ?_; refine qq ?_; refine nI ?_; refine cE 7 rfl fun hB2 => ?_; refine aB ?_; refine aR rfl hc5 ?_; refine be ?_; refine aB ?_; refine bz ?_; refine al ?_; refine q2 ?_; refine nI ?_; obtain ⟨x7, hx7, h⟩ := ap h; obtain ⟨x8, hx8, h⟩ := ap h; refine al ?_; refine q3 ?_; refine step (bV (xs := a0) (e := (D.int .i64)) hx7 rfl rfl) ?_; refine qq ?_; refine m9 (r := .bool x8) rfl (aP bk.nil') (hc_a1 _ _ hx8) ?_; refine nI ?_; by_cases hc9 : x8 = true
   · replace h := aW hc9 h; refine aR rfl hc9 ?_; refine al ?_; refine q2 ?_; refine nI ?_; obtain ⟨r10, kr10, hr⟩ := cx (o := some i1) (g := Br.ret) h; subst hr; have h := kr10; cases sj h; refine aZ ?_; refine And.intro (fun hn => nomatch hn) ?_; intro hq; have hq := hq.symm; subst hq; exact bH (.inr rfl) (aL rfl rfl) (RV.d trivial)
   · replace h := aX hc9 h; refine aQ rfl hc9 ?_; refine be ?_; cases sj h; refine b9 (And.intro rfl rfl) ?_; refine step (co (cq hinv4 hgo3 hB2) rfl rfl) ?_; refine qq ?_; exact nR []
 · rintro i1 ⟨⟩ hinv4 hgo3; have hc5 := dn hgo3; refine al ?_; refine qq ?_; refine nI ?_; refine aB ?_; refine aQ rfl hc5 ?_; refine b8 [] ?_; refine cm ?_; exact ⟨rfl, rfl⟩
 · intro r' hq; subst hq; exact bK h
 rintro ⟨⟩ rfl; refine aI ⟨tab [(4, vi (-1))], ai [], 0⟩ ?_ ?_
 · refine qq ?_; exact nR []
 cases sj h; refine aZ ?_; exact bH (.inr rfl) (aL rfl rfl) (RV.d trivial)
theorem DG {a0 : api_Topo} {a1 : Int} {a2 : Int} {r : ((List Int) × Bool)} (h : jX a0 a1 a2 = some r) : PCall Try.prog 104 [eapi_Topo a0, .int .i64 a1, .int .i64 a2] (.tup [eL none (D.int .i64) r.1, .bool r.2]) := by
 refine PCall.inW B9 ?_; refine al ?_; refine q3 ?_; refine nI ?_; obtain ⟨r1, hr1, h⟩ := ap h; refine al ?_; refine qq ?_; refine bQ (aP (aP bk.nil')) (Du hr1) ?_; refine qq ?_; refine nI ?_; refine aB ?_; obtain ⟨r2, hr2, h⟩ := ap h; obtain ⟨y5, hv, h⟩ := ap h; refine aI ⟨tab [(1, vi a1), (2, vi a2), (8, .d (eL none (eL none (D.int .i64)) r1)), (24, vb y5)], ai [], 0⟩ ?_ ?_
 · refine q2 ?_; refine bQ (aP (aP bk.nil')) (rS hr2) ?_; refine q2 ?_; by_cases hg3 : (!r2) = true
   · replace hv := aW hg3 hv; (iterate 4 refine qX (!r2) (by rw [hg3]; decide) ?_); refine step (bp rfl hg3 rfl) ?_; cases sj hv; exact nR []
   · replace hv := aX hg3 hv; obtain ⟨r4, hr4, hv⟩ := ap hv; refine gq (bf hg3) ?_; refine gq (bf hg3) ?_; refine qG _ (bf hg3) ?_; refine bQ (aP (aP bk.nil')) (rS hr4) ?_; refine gq (bf hg3) ?_; refine step (bv rfl hg3 rfl) ?_; cases sj hv; exact nR []
 by_cases hc7 : y5 = true
 · replace h := aW hc7 h; refine aR rfl hc7 ?_; refine al ?_; refine q2 ?_; refine nI ?_; cases sj h; refine aZ ?_; exact ct (.inr rfl) (aL rfl (aL rfl rfl)) (RV.d (RV.d trivial))
 · replace h := aX hc7 h; refine aQ rfl hc7 ?_; refine be ?_; obtain ⟨r8, hr8, h⟩ := ap h; refine aI ⟨tab [(1, vi a1), (2, vi a2), (8, .d (eL none (eL none (D.int .i64)) r1)), (9, .ptr 0 0 0)], ai [(0, .var [cM r8])], 1⟩ ?_ ?_
   · refine q2 ?_; refine bQ (aP (aP bk.nil')) (DD hr8) ?_; refine q2 ?_; exact nR [0]
   refine aB ?_; obtain ⟨x9, hx9, h⟩ := ap h; refine al ?_; refine q2 ?_; refine step (bV (xs := r8) (e := (D.int .i64)) hx9 rfl rfl) ?_; refine q2 ?_; refine nI ?_; by_cases hc10 : decide (x9 < 0) = true
   · replace h := aW hc10 h; refine aR rfl hc10 ?_; refine aI ⟨tab [(6, cM ([] : List Int)), (7, vb false)], ai [], 0⟩ ?_ ?_
     · refine q2 ?_; exact nR []
     cases sj h; refine aZ ?_; exact ct (.inr rfl) (aL rfl (aL rfl rfl)) (RV.d (RV.d trivial))
   · replace h := aX hc10 h; refine aQ rfl hc10 ?_; refine be ?_; refine aI ⟨tab [(1, vi a1), (2, vi a2), (8, .d (eL none (eL none (D.int .i64)) r1)), (9, .ptr 0 0 0), (10, .loc 1 0 (([a1] : List Int).length))], ai [(0, .var [cM r8]), (1, .lst false none (List.map (D.int .i64) ([a1] : List Int)))], 2⟩ ?_ ?_
     · refine q3 ?_; exact nR [0, 1]
     refine aB ?_; refine aI ⟨tab [(2, vi a2), (8, .d (eL none (eL none (D.int .i64)) r1)), (9, .ptr 0 0 0), (10, .loc 1 0 (([a1] : List Int).length)), (11, .ptr 2 0 0)], ai [(0, .var [cM r8]), (1, .lst false none (List.map (D.int .i64) ([a1] : List Int))), (2, .var [vi a1])], 3⟩ ?_ ?_
     · refine q3 ?_; exact nR [0, 1, 2]
     obtain ⟨q21, hl, h⟩ := ap h; obtain ⟨z19, z20⟩ := q21; refine bz ?_; refine yK (fun (qq : ((List Int) × Int)) => ⟨tab [(2, vi a2), (8, .d (eL none (eL none (D.int .i64)) r1)), (9, .ptr 0 0 0), (10, .loc 1 0 qq.1.length), (11, .ptr 2 0 0)], ai [(0, .var [cM r8]), (1, .lst false none (List.map (D.int .i64) qq.1)), (2, .var [vi qq.2])], 3⟩) 0 (fun (qq : ((List Int) × Int)) => ⟨tab [(10, .loc 0 0 qq.1.length)], ai (rP qq.1), 1⟩) hl ?_ ?_
     · rintro ⟨l11, i12⟩ xr13 h; refine aB ?_; refine al ?_; refine q3 ?_; refine nI ?_; by_cases hc14 : (i12 != a2) = true
       · replace h := aW hc14 h; refine aR rfl hc14 ?_; refine be ?_; refine aB ?_; refine bz ?_; obtain ⟨x15, hx15, h⟩ := ap h; obtain ⟨r16, hr16, h⟩ := ap h; refine aI ⟨tab [(2, vi a2), (8, .d (eL none (eL none (D.int .i64)) r1)), (9, .ptr 0 0 0), (10, .loc 1 0 l11.length), (11, .ptr 2 0 0), (12, vi r16)], ai [(0, .var [cM r8]), (1, .lst false none (List.map (D.int .i64) l11)), (2, .var [vi i12])], 3⟩ ?_ ?_
         · refine q2 ?_; refine step (bV (xs := r1) (e := (eL none (D.int .i64))) hx15 rfl rfl) ?_; refine q2 ?_; refine lK (v := vi r16) (σ' := _) (n' := _) (yS (DF ⟨119, [.cptr none (eL none (D.int .i64) r8) 0, .cptr none (.int .i64 i12) 0], rfl, fun _ _ h => DE h⟩ hr16) rfl (eg.c (.d _) (eg.c (yZ (eg.c (.var1 rfl (.d _) rfl) (eg.c (.var1 rfl (.d _) rfl) eg.nil0))) eg.nil0))) (Nat.le_refl _) ?_; refine qq ?_; exact nR [0, 1, 2]
         obtain ⟨x17, hx17, h⟩ := ap h; refine aI ⟨tab [(2, vi a2), (8, .d (eL none (eL none (D.int .i64)) r1)), (9, .ptr 0 0 0), (10, .loc 1 0 l11.length), (11, .ptr 2 0 0)], ai [(0, .var [cM r8]), (1, .lst false none (List.map (D.int .i64) l11)), (2, .var [vi x17])], 3⟩ ?_ ?_
         · refine q2 ?_; refine step (bV (xs := r1) (e := (eL none (D.int .i64))) hx15 rfl rfl) ?_; refine q2 ?_; refine step (bV (xs := x15) (e := (D.int .i64)) hx17 rfl rfl) ?_; refine q2 ?_; exact nR [0, 1, 2]
         obtain ⟨l18, hl18, h⟩ := ap h; refine dL ⟨tab [(2, vi a2), (8, .d (eL none (eL none (D.int .i64)) r1)), (9, .ptr 0 0 0), (10, .loc 1 0 l18.length), (11, .ptr 2 0 0)], ai [(0, .var [cM r8]), (1, .lst false none (List.map (D.int .i64) l18)), (2, .var [vi x17])], 3⟩ ?_ ?_
         · refine q3 ?_; refine step (eY (xs := l11) (ys := ([x17] : List Int)) (e := (D.int .i64)) hl18 rfl rfl rfl (fB (xs := ([x17] : List Int)) (e := (D.int .i64)) rfl)) ?_; refine qq ?_; exact nR [0, 3, 2]
         refine aI ⟨tab [(2, vi a2), (8, .d (eL none (eL none (D.int .i64)) r1)), (9, .ptr 0 0 0), (10, .loc 1 0 l18.length), (56, vi x17)], ai [(0, .var [cM r8]), (1, .lst false none (List.map (D.int .i64) l18))], 2⟩ ?_ ?_
         · refine qq ?_; exact nR [0, 1]
         cases sj h; refine b9 (And.intro rfl rfl) ?_; refine q2 ?_; exact nR [0, 1, 2]
       · replace h := aX hc14 h; refine aQ rfl hc14 ?_; cases sj h; refine d7 (s0 := ⟨tab [(10, .loc 0 0 l11.length)], ai (rP l11), 1⟩) (nr [1]) ?_; refine cm ?_; exact ⟨rfl, rfl⟩
     refine aI ⟨tab [(6, .loc 0 0 z19.length), (7, vb true)], ai (rP z19), 1⟩ ?_ ?_
     · refine q3 ?_; exact nR [0]
     cases sj h; refine aZ ?_; exact ct (.inr rfl) (aL rfl (aL rfl rfl)) (RV.loc (xs := z19) (e := (D.int .i64)) rfl rfl (RV.d trivial))
theorem wq {a0 : api_Topo} {a1 : Int} {a2 : Int} {r : ((List Int) × Bool)} (h : jY a0 a1 a2 = some r) : PCall Try.prog 86 [eapi_Topo a0, .int .i64 a1, .int .i64 a2] (.tup [eL none (D.int .i64) r.1, .bool r.2]) := by
 refine PCall.inW Ca ?_; refine al ?_; refine q3 ?_; refine nI ?_; obtain ⟨x1, hx1, h⟩ := ap h; obtain ⟨r2, hr2, h⟩ := ap h; refine al ?_; refine q4 ?_; refine step (bV (xs := a0.Hosts) (e := eapi_Port) hx1 rfl rfl) ?_; refine q2 ?_; refine bQ (aP (aP bk.nil')) (oU hr2) ?_; refine q4 ?_; refine qq ?_; refine nT [(2, vi a2), (3, bn a0), (8, vi r2.1), (9, vb r2.2)] ?_; obtain ⟨x3, hx3, h⟩ := ap h; obtain ⟨r4, hr4, h⟩ := ap h; refine al ?_; refine q4 ?_; refine step (bV (xs := a0.Hosts) (e := eapi_Port) hx3 rfl rfl) ?_; refine q2 ?_; refine bQ (aP (aP bk.nil')) (oU hr4) ?_; refine q4 ?_; refine qq ?_; refine nI ?_; refine aB ?_; refine aI ⟨tab [(3, bn a0), (8, vi r2.1), (10, vi r4.1), (39, vb ((!r2.2) || (!r4.2)))], ai [], 0⟩ ?_ ?_
 · refine q3 ?_; by_cases hg5 : (!r2.2) = true
   · (iterate 2 refine qX (!r2.2) (by rw [hg5]; decide) ?_); refine step (bp rfl hg5 rfl) ?_; exact aO.nil' (nm [] ⟨.d _, .d _, .d _, .eq (by first | (simp [hg5]; done) | (simp_all; done) | grind), trivial⟩ trivial)
   · refine gq (bf hg5) ?_; refine gq (bf hg5) ?_; refine step (bv rfl hg5 rfl) ?_; exact aO.nil' (nm [] ⟨.d _, .d _, .d _, .eq (by first | (simp [hg5]; done) | (simp_all; done) | grind), trivial⟩ trivial)
 by_cases hc6 : ((!r2.2) || (!r4.2)) = true
 · replace h := aW hc6 h; refine aR rfl hc6 ?_; refine al ?_; refine q2 ?_; refine nI ?_; cases sj h; refine aZ ?_; exact ct (.inr rfl) (aL rfl (aL rfl rfl)) (RV.d (RV.d trivial))
 · replace h := aX hc6 h; refine aQ rfl hc6 ?_; refine be ?_; obtain ⟨r7, hr7, h⟩ := ap h; refine al ?_; refine q3 ?_; refine bQ (aP (aP (aP bk.nil'))) (DG hr7) ?_; refine q4 ?_; refine nI ?_; cases sj h; refine aZ ?_; exact ct (.inr rfl) (aL rfl (aL rfl rfl)) (RV.d (RV.d trivial))
theorem DH {a0 : api_Topo} {a1 : api_Want} {r : Int} (h : kN a0 a1 = some r) : PCall Try.prog 58 [eapi_Topo a0, eapi_Want a1] (.int .i64 r) := by
 refine PCall.inW Cc ?_; refine al ?_; refine q3 ?_; refine nO ?_; refine q2 ?_; refine nI ?_; refine aB ?_; obtain ⟨r1, hr1, h⟩ := ap h; obtain ⟨y5, hv, h⟩ := ap h; refine aI ⟨tab [(2, bn a0), (3, fu a1), (29, vb y5)], ai [], 0⟩ ?_ ?_
 · refine q3 ?_; refine m9 (r := .bool r1) rfl (aP bk.nil') (wd hr1) ?_; refine q2 ?_; by_cases hg2 : (!r1) = true
   · replace hv := aW hg2 hv; (iterate 5 refine qX (!r1) (by rw [hg2]; decide) ?_); refine step (bp rfl hg2 rfl) ?_; refine qq ?_; (iterate 5 refine qX true (by decide) ?_); refine step (bp rfl rfl rfl) ?_; cases sj hv; exact nR []
   · replace hv := aX hg2 hv; obtain ⟨r3, hr3, hv⟩ := ap hv; refine gq (bf hg2) ?_; refine gq (bf hg2) ?_; refine gq (bf hg2) ?_; refine qG _ (bf hg2) ?_; refine m9 (r := .bool r3) rfl (aP bk.nil') (wd hr3) ?_; refine gq (bf hg2) ?_; refine step (bv rfl hg2 rfl) ?_; refine qq ?_; by_cases hg4 : (!r3) = true
     · replace hv := aW hg4 hv; (iterate 5 refine qX (!r3) (by rw [hg4]; decide) ?_); refine step (bp rfl hg4 rfl) ?_; cases sj hv; exact nR []
     · replace hv := aX hg4 hv; refine gq (bf hg4) ?_; refine gq (bf hg4) ?_; refine gq (bf hg4) ?_; refine gq (bf hg4) ?_; refine gq (bf hg4) ?_; refine step (bv rfl hg4 rfl) ?_; cases sj hv; exact nR []
 by_cases hc7 : y5 = true
 · replace h := aW hc7 h; refine aR rfl hc7 ?_; refine al ?_; refine qq ?_; refine nI ?_; cases sj h; refine aZ ?_; exact bH (.inr rfl) (aL rfl rfl) (RV.d trivial)
 · replace h := aX hc7 h; refine aQ rfl hc7 ?_; refine be ?_; refine aB ?_; refine al ?_; refine q2 ?_; refine step (bF (xs := a1.Match) (e := eapi_Pair) rfl) ?_; refine qq ?_; refine nT [(2, bn a0), (3, fu a1), (31, cQ a1.Match), (32, vi (a1.Match.length : Int)), (33, vi 0)] ?_; obtain ⟨q24, hl, h⟩ := ap h; refine bz ?_; refine dG (cB (a1.Match.length : Int)) (fun (i8 : Int) (qq : Unit) => ⟨tab [(2, bn a0), (3, fu a1), (31, cQ a1.Match), (32, vi (a1.Match.length : Int)), (33, vi i8)], ai [], 0⟩) 0 (fun (qq : Unit) => ⟨tab [(2, bn a0), (3, fu a1)], ai [], 0⟩) bB cC (r := r) hl (by unfold bB; omega) ?_ ?_ ?_ ?_
   · rintro i8 ⟨⟩ xr13 hinv11 hgo10 h; have hc12 := dy hgo10; refine al ?_; refine qq ?_; refine nI ?_; refine cE 32 rfl fun hB9 => ?_; refine aB ?_; refine aR rfl hc12 ?_; refine be ?_; refine aB ?_; refine bz ?_; obtain ⟨x14, hx14, h⟩ := ap h; refine aI ⟨tab [(2, bn a0), (3, fu a1), (6, vi i8), (7, .ptr 0 0 0), (31, cQ a1.Match), (32, vi (a1.Match.length : Int)), (33, vi i8)], ai [(0, .var [vi x14.F, vh x14.N])], 1⟩ ?_ ?_
     · refine qq ?_; refine step (bV (xs := a1.Match) (e := eapi_Pair) hx14 rfl rfl) ?_; refine q4 ?_; exact nR [0]
     obtain ⟨y19, hv, h⟩ := ap h; refine aI ⟨tab [(2, bn a0), (3, fu a1), (31, cQ a1.Match), (32, vi (a1.Match.length : Int)), (33, vi i8), (61, vb y19)], ai [], 0⟩ ?_ ?_
     · refine q4 ?_; by_cases hg15 : decide (x14.F < 4) = true
       · replace hv := aW hg15 hv; (iterate 3 refine qX (decide (x14.F < 4)) (by rw [hg15]; decide) ?_); refine step (bp rfl hg15 rfl) ?_; refine qq ?_; (iterate 3 refine qX true (by decide) ?_); refine cr rfl ?_; refine cr rfl ?_; refine cr rfl ?_; refine cr rfl ?_; refine cr rfl ?_; refine cr rfl ?_; refine cr rfl ?_; refine cr rfl ?_; refine cr rfl ?_; refine cr rfl ?_; refine qX true (by decide) ?_; refine step (bp rfl rfl rfl) ?_; cases sj hv; exact nR []
       · replace hv := aX hg15 hv; refine gq (bf hg15) ?_; refine gq (bf hg15) ?_; refine gq (bf hg15) ?_; refine step (bv rfl hg15 rfl) ?_; refine qq ?_; by_cases hg16 : decide (x14.F > 7) = true
         · replace hv := aW hg16 hv; (iterate 3 refine qX (decide (x14.F > 7)) (by rw [hg16]; decide) ?_); refine cr rfl ?_; refine cr rfl ?_; refine cr rfl ?_; refine cr rfl ?_; refine cr rfl ?_; refine cr rfl ?_; refine cr rfl ?_; refine cr rfl ?_; refine cr rfl ?_; refine cr rfl ?_; refine qX (decide (x14.F > 7)) (by rw [hg16]; decide) ?_; refine step (bp rfl hg16 rfl) ?_; cases sj hv; exact nR []
         · replace hv := aX hg16 hv; refine gq (bf hg16) ?_; refine gq (bf hg16) ?_; refine gq (bf hg16) ?_; by_cases hg17 : decide (i8 > 0) = true
           · replace hv := aW hg17 hv; obtain ⟨x18, hx18, hv⟩ := ap hv; refine gq hg17 ?_; refine gq hg17 ?_; refine gq hg17 ?_; refine gq hg17 ?_; refine qG _ hg17 ?_; refine step (bV (xs := a1.Match) (e := eapi_Pair) hx18 rfl rfl) ?_; refine gq hg17 ?_; refine gq hg17 ?_; refine gq hg17 ?_; refine gq hg17 ?_; refine gq hg17 ?_; refine qG _ (bf hg16) ?_; refine step (bp rfl hg17 rfl) ?_; refine step (bv rfl hg16 rfl) ?_; cases sj hv; exact nR []
           · replace hv := aX hg17 hv; (iterate 10 refine gX hg17 ?_); refine qG _ (bf hg16) ?_; refine step (bv rfl hg17 rfl) ?_; refine step (bv rfl hg16 rfl) ?_; cases sj hv; exact nR []
     by_cases hc21 : y19 = true
     · replace h := aW hc21 h; refine aR rfl hc21 ?_; refine al ?_; refine qq ?_; refine nI ?_; obtain ⟨r22, kr22, hr⟩ := cx (o := some 1) (g := Br.ret) h; subst hr; have h := kr22; cases sj h; refine aZ ?_; refine And.intro (fun hn => nomatch hn) ?_; intro hq; have hq := hq.symm; subst hq; exact bH (.inr rfl) (aL rfl rfl) (RV.d trivial)
     · replace h := aX hc21 h; refine aQ rfl hc21 ?_; refine be ?_; cases sj h; refine b9 (And.intro rfl rfl) ?_; refine step (co (cq hinv11 hgo10 hB9) rfl rfl) ?_; refine qq ?_; exact nR []
   · rintro i8 ⟨⟩ hinv11 hgo10; have hc12 := dn hgo10; refine al ?_; refine qq ?_; refine nI ?_; refine aB ?_; refine aQ rfl hc12 ?_; refine b8 [(2, bn a0), (3, fu a1)] ?_; refine cm ?_; exact ⟨rfl, rfl⟩
   · intro r' hq; subst hq; exact bK h
   rintro ⟨⟩ rfl; refine aB ?_; obtain ⟨r22, hr22, h⟩ := ap h; refine aI ⟨tab [(9, vb r22.2)], ai [], 0⟩ ?_ ?_
   · refine q4 ?_; refine qq ?_; refine bQ (aP (aP (aP bk.nil'))) (wq hr22) ?_; refine q4 ?_; refine qq ?_; exact nR []
   refine al ?_; refine q2 ?_; refine nI ?_; by_cases hc23 : (!r22.2) = true
   · replace h := aW hc23 h; refine aR rfl hc23 ?_; refine al ?_; refine qq ?_; refine nI ?_; cases sj h; refine aZ ?_; exact bH (.inr rfl) (aL rfl rfl) (RV.d trivial)
   · replace h := aX hc23 h; refine aQ rfl hc23 ?_; refine be ?_; refine al ?_; refine qq ?_; refine nI ?_; cases sj h; refine aZ ?_; exact bH (.inr rfl) (aL rfl rfl) (RV.d trivial)
theorem wt {a0 : Int} {r : Int} (h : l7 a0 = some r) : PCall Try.prog 88 [.int .i64 a0] (.int .u16 r) := by
 refine PCall.inW Cd ?_; refine al ?_; refine qq ?_; refine nO ?_; refine q4 ?_; refine nI ?_; cases sj h; refine aZ ?_; exact bH (.inr rfl) (aL rfl rfl) (RV.d trivial)
theorem oW {a0 : Int} {a1 : Int} {r : aj} (h : je a0 a1 = some r) : PCall Try.prog 87 [.int .i64 a0, .int .u16 a1] (cg r) := by
 refine PCall.inW Ce ?_; refine aI ⟨tab [(0, vi a0), (1, vh a1), (4, .ptr 0 0 0)], ai [(0, eR)], 1⟩ ?_ ?_
 · refine qq ?_; exact nR [0]
 refine aI ⟨tab [(4, .ptr 0 0 0)], ai [(0, .var [vi 2, vi a0, vh a1, bX []])], 1⟩ ?_ ?_
 · refine q2 ?_; refine step (eA (ds := [.int .i64 2, .int .i64 a0, .int .u16 a1, eL (some 4) bm []]) rfl) ?_; refine qq ?_; exact nR [0]
 cases sj h; refine aZ ?_; exact bH (.inr rfl) (fO (ds := [.int .i64 2, .int .i64 a0, .int .u16 a1, eL (some 4) bm []]) rfl rfl (show 4 ≤ 4 by decide) rfl rfl) (RV.d trivial)
theorem wv {a0 : api_Want} {a1 : (List aj)} {r : (List aj)} (h : l9 a0 a1 = some r) : dg Try.prog 59 [rN a0, .loc 0 0 a1.length] (ai [(0, .lst true (some 4) (List.map bm a1))]) 1 (.loc 1 0 r.length) (ai [(1, .lst true (some 4) (List.map bm r))]) 2 := by
 refine dg.inW Cg ?_; refine al ?_; refine q2 ?_; refine nI ?_; obtain ⟨r1, hr1, h⟩ := ap h; obtain ⟨r2, hr2, h⟩ := ap h; obtain ⟨r3, hr3, h⟩ := ap h; obtain ⟨r4, hr4, h⟩ := ap h; obtain ⟨l5, hl5, h⟩ := ap h; refine rG ⟨tab [(2, fu a0), (5, .loc 1 0 l5.length)], ai [(1, .lst true (some 4) (List.map bm l5))], 2⟩ ?_ ?_
 · refine bL [] [] (v := .loc 0 0 a1.length) rfl rfl rfl ?_; refine bL [] [] (v := fu a0) rfl rfl rfl ?_; refine bL [] [] (v := vi a0.From) rfl rfl rfl ?_; refine k6 (r := .int .u16 r1) [] (aP bk.nil') (wt hr1) rfl ?_; refine k6 (r := cg r2) [] (aP (aP bk.nil')) (oW hr2) rfl ?_; refine bL [] [] (v := .d (.cptr (some 4) (eapi_Want a0) 1)) rfl rfl rfl ?_; refine bL [] [] (v := vi a0.To) rfl rfl rfl ?_; refine k6 (r := .int .u16 r3) [] (aP bk.nil') (wt hr3) rfl ?_; refine k6 (r := cg r4) [] (aP (aP bk.nil')) (oW hr4) rfl ?_; refine bL [] [] (v := bX ([r2, r4] : List aj)) (jb rfl (by simp [eL, eH])) rfl rfl ?_; refine bL [0] [0] (v := .loc 1 0 l5.length) (σ' := (am (am (ai [(0, .lst true (some 4) (List.map bm a1))]) 0 none) 1 (some (.lst true (some 4) (List.map bm l5))))) (n' := 2) (eY (xs := a1) (ys := ([r2, r4] : List aj)) (e := bm) hl5 rfl rfl rfl (fB (xs := ([r2, r4] : List aj)) (e := bm) rfl)) rfl rfl ?_; refine bL [] [] (v := .loc 1 0 l5.length) rfl rfl rfl ?_; exact cu.nil' ⟨by decide, nr [0, 1]⟩
 refine aB ?_; refine al ?_; refine q2 ?_; refine step (bF (xs := a0.Match) (e := eapi_Pair) rfl) ?_; refine qq ?_; refine nT [(5, .loc 1 0 l5.length), (20, cQ a0.Match), (21, vi (a0.Match.length : Int)), (22, vi 0)] ?_; obtain ⟨z16, hl, h⟩ := ap h; refine bz ?_; refine fN (cB (a0.Match.length : Int)) (fun (i7 : Int) (qq : (List aj)) => ⟨tab [(5, .loc 1 0 qq.length), (20, cQ a0.Match), (21, vi (a0.Match.length : Int)), (22, vi i7)], ai [(1, .lst true (some 4) (List.map bm qq))], 2⟩) 0 (fun (qq : (List aj)) => ⟨tab [(5, .loc 1 0 qq.length)], ai [(1, .lst true (some 4) (List.map bm qq))], 2⟩) bB cC hl (by unfold bB; omega) ?_ ?_ ?_
 · rintro i7 l6 xr12 hinv10 hgo9 h; have hc11 := dy hgo9; refine al ?_; refine qq ?_; refine nI ?_; refine cE 21 rfl fun hB8 => ?_; refine aB ?_; refine aR rfl hc11 ?_; refine be ?_; refine aB ?_; refine bz ?_; obtain ⟨x13, hx13, h⟩ := ap h; refine aI ⟨tab [(5, .loc 1 0 l6.length), (7, .ptr 2 0 0), (20, cQ a0.Match), (21, vi (a0.Match.length : Int)), (22, vi i7)], ai [(1, .lst true (some 4) (List.map bm l6)), (2, .var [vi x13.F, vh x13.N])], 3⟩ ?_ ?_
   · refine step (bV (xs := a0.Match) (e := eapi_Pair) hx13 rfl rfl) ?_; refine q3 ?_; exact nR [0, 1, 2]
   obtain ⟨r14, hr14, h⟩ := ap h; obtain ⟨l15, hl15, h⟩ := ap h; refine dL ⟨tab [(5, .loc 1 0 l15.length), (20, cQ a0.Match), (21, vi (a0.Match.length : Int)), (22, vi i7)], ai [(1, .lst true (some 4) (List.map bm l15))], 2⟩ ?_ ?_
   · refine q4 ?_; refine qq ?_; refine bQ (aP (aP bk.nil')) (oW hr14) ?_; refine step (v := bX ([r14] : List aj)) (jb rfl (by simp [eL, eH])) ?_; refine step (eY (xs := l6) (ys := ([r14] : List aj)) (e := bm) hl15 rfl rfl rfl (fB (xs := ([r14] : List aj)) (e := bm) rfl)) ?_; refine qq ?_; exact nR [0, 3]
   cases sj h; refine b9 (And.intro rfl rfl) ?_; refine step (co (cq hinv10 hgo9 hB8) rfl rfl) ?_; refine qq ?_; exact nR [0, 1]
 · rintro i7 l6 hinv10 hgo9; have hc11 := dn hgo9; refine al ?_; refine qq ?_; refine nI ?_; refine aB ?_; refine aQ rfl hc11 ?_; refine b8 [(5, .loc 1 0 l6.length)] ?_; refine cm ?_; exact ⟨rfl, rfl⟩
 refine aI ⟨tab [(4, .loc 1 0 z16.length)], ai [(1, .lst true (some 4) (List.map bm z16))], 2⟩ ?_ ?_
 · refine q2 ?_; exact nR [0, 1]
 cases sj h; refine aZ ?_; exact ⟨.inr rfl, _, rfl, rfl, fL.sub ⟨rfl, trivial⟩, rfl⟩
theorem DI {a0 : api_Topo} {a1 : Int} {a2 : Int} {r : (Int × Bool)} (h : kO a0 a1 a2 = some r) : PCall Try.prog 89 [eapi_Topo a0, .int .i64 a1, .int .i64 a2] (.tup [.int .u16 r.1, .bool r.2]) := by
 refine PCall.inW Ci ?_; refine al ?_; refine q3 ?_; refine nI ?_; refine aB ?_; refine aI ⟨tab [(1, vi a1), (2, vi a2), (3, bn a0), (36, vb ((decide (a1 < 0)) || ((decide (a1 ≥ (a0.Switches.length : Int))) || ((decide (a2 < 0)) || ((decide (a2 ≥ (a0.Switches.length : Int))) || (a1 == a2))))))], ai [], 0⟩ ?_ ?_
 · refine q3 ?_; by_cases hg1 : decide (a1 < 0) = true
   · (iterate 5 refine qX (decide (a1 < 0)) (by rw [hg1]; decide) ?_); refine step (bp rfl hg1 rfl) ?_; refine qq ?_; (iterate 2 refine qX true (by decide) ?_); refine step (bp rfl rfl rfl) ?_; refine qq ?_; (iterate 5 refine qX true (by decide) ?_); refine step (bp rfl rfl rfl) ?_; refine qq ?_; (iterate 3 refine qX true (by decide) ?_); refine step (bp rfl rfl rfl) ?_; exact aO.nil' (nm [] ⟨.d _, .d _, .d _, .eq (by first | (simp [hg1]; done) | (simp_all; done) | grind), trivial⟩ trivial)
   · refine gq (bf hg1) ?_; refine gq (bf hg1) ?_; refine gq (bf hg1) ?_; refine qG _ (bf hg1) ?_; refine step (bF (xs := a0.Switches) (e := (D.int .u16)) rfl) ?_; refine gq (bf hg1) ?_; refine step (bv rfl hg1 rfl) ?_; refine qq ?_; by_cases hg2 : decide (a1 ≥ (a0.Switches.length : Int)) = true
     · (iterate 2 refine qX (decide (a1 ≥ (a0.Switches.length : Int))) (by rw [hg2]; decide) ?_); refine step (bp rfl hg2 rfl) ?_; refine qq ?_; (iterate 5 refine qX true (by decide) ?_); refine step (bp rfl rfl rfl) ?_; refine qq ?_; (iterate 3 refine qX true (by decide) ?_); refine step (bp rfl rfl rfl) ?_; exact aO.nil' (nm [] ⟨.d _, .d _, .d _, .eq (by first | (simp [hg1, hg2]; done) | (simp_all; done) | grind), trivial⟩ trivial)
     · refine gq (bf hg2) ?_; refine gq (bf hg2) ?_; refine step (bv rfl hg2 rfl) ?_; refine qq ?_; by_cases hg3 : decide (a2 < 0) = true
       · (iterate 5 refine qX (decide (a2 < 0)) (by rw [hg3]; decide) ?_); refine step (bp rfl hg3 rfl) ?_; refine qq ?_; (iterate 3 refine qX true (by decide) ?_); refine step (bp rfl rfl rfl) ?_; exact aO.nil' (nm [] ⟨.d _, .d _, .d _, .eq (by first | (simp [hg1, hg2, hg3]; done) | (simp_all; done) | grind), trivial⟩ trivial)
       · refine gq (bf hg3) ?_; refine gq (bf hg3) ?_; refine gq (bf hg3) ?_; refine qG _ (bf hg3) ?_; refine step (bF (xs := a0.Switches) (e := (D.int .u16)) rfl) ?_; refine gq (bf hg3) ?_; refine step (bv rfl hg3 rfl) ?_; refine qq ?_; by_cases hg4 : decide (a2 ≥ (a0.Switches.length : Int)) = true
         · (iterate 3 refine qX (decide (a2 ≥ (a0.Switches.length : Int))) (by rw [hg4]; decide) ?_); refine step (bp rfl hg4 rfl) ?_; exact aO.nil' (nm [] ⟨.d _, .d _, .d _, .eq (by first | (simp [hg1, hg2, hg3, hg4]; done) | (simp_all; done) | grind), trivial⟩ trivial)
         · refine gq (bf hg4) ?_; refine gq (bf hg4) ?_; refine gq (bf hg4) ?_; refine step (bv rfl hg4 rfl) ?_; exact aO.nil' (nm [] ⟨.d _, .d _, .d _, .eq (by first | (simp [hg1, hg2, hg3, hg4]; done) | (simp_all; done) | grind), trivial⟩ trivial)
 by_cases hc5 : ((decide (a1 < 0)) || ((decide (a1 ≥ (a0.Switches.length : Int))) || ((decide (a2 < 0)) || ((decide (a2 ≥ (a0.Switches.length : Int))) || (a1 == a2))))) = true
 · replace h := aW hc5 h; refine aR rfl hc5 ?_; refine al ?_; refine q2 ?_; refine nI ?_; cases sj h; refine aZ ?_; exact ct (.inr rfl) (aL rfl (aL rfl rfl)) (RV.d (RV.d trivial))
 · replace h := aX hc5 h; refine aQ rfl hc5 ?_; refine be ?_; obtain ⟨x6, hx6, h⟩ := ap h; obtain ⟨x7, hx7, h⟩ := ap h; refine al ?_; refine q3 ?_; refine step (bV (xs := a0.Switches) (e := (D.int .u16)) hx6 rfl rfl) ?_; refine q4 ?_; refine step (bV (xs := a0.Switches) (e := (D.int .u16)) hx7 rfl rfl) ?_; refine q3 ?_; refine nI ?_; refine aB ?_; refine al ?_; refine q2 ?_; refine step (bF (xs := a0.Links) (e := (eA2 eapi_Port)) rfl) ?_; refine qq ?_; refine nT [(8, vh x6), (9, vh x7), (48, dA a0.Links), (49, vi (a0.Links.length : Int)), (50, vi 0)] ?_; obtain ⟨q19, hl, h⟩ := ap h; refine bz ?_; refine dG (cB (a0.Links.length : Int)) (fun (i8 : Int) (qq : Unit) => ⟨tab [(8, vh x6), (9, vh x7), (48, dA a0.Links), (49, vi (a0.Links.length : Int)), (50, vi i8)], ai [], 0⟩) 0 (fun (qq : Unit) => ⟨tab [], ai [], 0⟩) bB cC (r := r) hl (by unfold bB; omega) ?_ ?_ ?_ ?_
   · rintro i8 ⟨⟩ xr13 hinv11 hgo10 h; have hc12 := dy hgo10; refine al ?_; refine qq ?_; refine nI ?_; refine cE 49 rfl fun hB9 => ?_; refine aB ?_; refine aR rfl hc12 ?_; refine be ?_; refine aB ?_; refine bz ?_; obtain ⟨x14, hx14, h⟩ := ap h; refine aI ⟨tab [(8, vh x6), (9, vh x7), (11, .ptr 0 0 0), (48, dA a0.Links), (49, vi (a0.Links.length : Int)), (50, vi i8)], ai [(0, .var [vh x14.a0.Sw, vh x14.a0.Pt, vh x14.a1.Sw, vh x14.a1.Pt])], 1⟩ ?_ ?_
     · refine step (bV (xs := a0.Links) (e := (eA2 eapi_Port)) hx14 rfl rfl) ?_; refine q3 ?_; exact nR [0]
     refine bz ?_; refine aI ⟨tab [(8, vh x6), (9, vh x7), (11, .ptr 0 0 0), (48, dA a0.Links), (49, vi (a0.Links.length : Int)), (50, vi i8), (54, vb ((x14.a0.Sw == x6) && (x14.a1.Sw == x7)))], ai [(0, .var [vh x14.a0.Sw, vh x14.a0.Pt, vh x14.a1.Sw, vh x14.a1.Pt])], 1⟩ ?_ ?_
     · refine q4 ?_; refine q2 ?_; by_cases hg15 : (x14.a0.Sw == x6) = true
       · refine gq hg15 ?_; refine gq hg15 ?_; refine gq hg15 ?_; refine gq hg15 ?_; refine gq hg15 ?_; refine step (bp rfl hg15 rfl) ?_; refine qq ?_; exact aO.nil' (nm [0] ⟨.d _, .d _, .pt 0, .d _, .d _, .d _, .eq (by first | (simp [hg15]; done) | (simp_all; done) | grind), trivial⟩ ⟨⟨show 0 < 1 by decide, _, rfl, .vars ⟨.d _, .d _, .d _, .d _, trivial⟩⟩, trivial⟩)
       · (iterate 5 refine gX hg15 ?_); refine step (bv rfl hg15 rfl) ?_; refine qq ?_; exact aO.nil' (nm [0] ⟨.d _, .d _, .pt 0, .d _, .d _, .d _, .eq (by first | (simp [hg15]; done) | (simp_all; done) | grind), trivial⟩ ⟨⟨show 0 < 1 by decide, _, rfl, .vars ⟨.d _, .d _, .d _, .d _, trivial⟩⟩, trivial⟩)
     by_cases hc16 : ((x14.a0.Sw == x6) && (x14.a1.Sw == x7)) = true
     · replace h := aW hc16 h; refine aR rfl hc16 ?_; refine aI ⟨tab [(6, vh x14.a0.Pt), (7, vb true)], ai [], 0⟩ ?_ ?_
       · refine q4 ?_; refine qq ?_; exact nR []
       obtain ⟨r17, kr17, hr⟩ := cx (o := some (x14.a0.Pt, true)) (g := Br.ret) h; subst hr; have h := kr17; cases sj h; refine aZ ?_; refine And.intro (fun hn => nomatch hn) ?_; intro hq; have hq := hq.symm; subst hq; exact ct (.inr rfl) (aL rfl (aL rfl rfl)) (RV.d (RV.d trivial))
     · replace h := aX hc16 h; refine aQ rfl hc16 ?_; refine aI ⟨tab [(8, vh x6), (9, vh x7), (11, .ptr 0 0 0), (48, dA a0.Links), (49, vi (a0.Links.length : Int)), (50, vi i8), (70, vb ((x14.a1.Sw == x6) && (x14.a0.Sw == x7)))], ai [(0, .var [vh x14.a0.Sw, vh x14.a0.Pt, vh x14.a1.Sw, vh x14.a1.Pt])], 1⟩ ?_ ?_
       · refine q4 ?_; refine q2 ?_; by_cases hg17 : (x14.a1.Sw == x6) = true
         · refine gq hg17 ?_; refine gq hg17 ?_; refine gq hg17 ?_; refine gq hg17 ?_; refine gq hg17 ?_; refine step (bp rfl hg17 rfl) ?_; refine qq ?_; exact aO.nil' (nm [0] ⟨.d _, .d _, .pt 0, .d _, .d _, .d _, .eq (by first | (simp [hg17]; done) | (simp_all; done) | grind), trivial⟩ ⟨⟨show 0 < 1 by decide, _, rfl, .vars ⟨.d _, .d _, .d _, .d _, trivial⟩⟩, trivial⟩)
         · (iterate 5 refine gX hg17 ?_); refine step (bv rfl hg17 rfl) ?_; refine qq ?_; exact aO.nil' (nm [0] ⟨.d _, .d _, .pt 0, .d _, .d _, .d _, .eq (by first | (simp [hg17]; done) | (simp_all; done) | grind), trivial⟩ ⟨⟨show 0 < 1 by decide, _, rfl, .vars ⟨.d _, .d _, .d _, .d _, trivial⟩⟩, trivial⟩)
       by_cases hc18 : ((x14.a1.Sw == x6) && (x14.a0.Sw == x7)) = true
       · replace h := aW hc18 h; refine aR rfl hc18 ?_; refine aI ⟨tab [(6, vh x14.a1.Pt), (7, vb true)], ai [], 0⟩ ?_ ?_
         · refine q4 ?_; refine qq ?_; exact nR []
         obtain ⟨r19, kr19, hr⟩ := cx (o := some (x14.a1.Pt, true)) (g := Br.ret) h; subst hr; have h := kr19; cases sj h; refine aZ ?_; refine And.intro (fun hn => nomatch hn) ?_; intro hq; have hq := hq.symm; subst hq; exact ct (.inr rfl) (aL rfl (aL rfl rfl)) (RV.d (RV.d trivial))
       · replace h := aX hc18 h; refine aQ rfl hc18 ?_; refine be ?_; cases sj h; refine b9 (And.intro rfl rfl) ?_; refine step (co (cq hinv11 hgo10 hB9) rfl rfl) ?_; refine qq ?_; exact nR []
   · rintro i8 ⟨⟩ hinv11 hgo10; have hc12 := dn hgo10; refine al ?_; refine qq ?_; refine nI ?_; refine aB ?_; refine aQ rfl hc12 ?_; refine b8 [] ?_; refine cm ?_; exact ⟨rfl, rfl⟩
   · intro r' hq; subst hq; exact bK h
   rintro ⟨⟩ rfl; refine aI ⟨tab [(6, vh 0), (7, vb false)], ai [], 0⟩ ?_ ?_
   · refine q2 ?_; exact nR []
   cases sj h; refine aZ ?_; exact ct (.inr rfl) (aL rfl (aL rfl rfl)) (RV.d (RV.d trivial))
theorem DJ {a0 : api_Topo} {a1 : api_Want} {r : (List aj)} (h : nK a0 a1 = some r) : PCall Try.prog 60 [eapi_Topo a0, eapi_Want a1] (eL (some 4) bm r) := by
 refine PCall.inW Cm ?_; refine al ?_; refine q3 ?_; refine nI ?_; obtain ⟨r1, hr1, h⟩ := ap h; refine al ?_; refine q4 ?_; refine qq ?_; refine bQ (aP (aP (aP bk.nil'))) (wq hr1) ?_; refine q4 ?_; refine qq ?_; refine nO ?_; refine qq ?_; refine nT [(2, bn a0), (3, fu a1), (5, cM r1.1), (7, .d (.nils))] ?_; refine aB ?_; refine al ?_; refine qq ?_; refine step (bF (xs := r1.1) (e := (D.int .i64)) rfl) ?_; refine qq ?_; refine nI ?_; obtain ⟨z21, hl, h⟩ := ap h; refine d7 (s0 := ⟨tab [(2, bn a0), (3, fu a1), (5, cM r1.1), (7, .loc 0 0 (([] : List aj).length)), (21, cM r1.1), (22, vi (r1.1.length : Int)), (23, vi 0)], ai (iv ([] : List aj)), 1⟩) (bP.trans (s2 := ⟨tab [(2, bn a0), (3, fu a1), (5, cM r1.1), (7, .loc 0 0 (([] : List aj).length)), (21, cM r1.1), (22, vi (r1.1.length : Int)), (23, vi 0)], ai (iv ([] : List aj)), 1⟩) (kJ 7 false (some 4) rfl) (nr [0])) ?_; refine bz ?_; refine fN (cB (r1.1.length : Int)) (fun (i3 : Int) (qq : (List aj)) => ⟨tab [(2, bn a0), (3, fu a1), (5, cM r1.1), (7, .loc 0 0 qq.length), (21, cM r1.1), (22, vi (r1.1.length : Int)), (23, vi i3)], ai (iv qq), 1⟩) 0 (fun (qq : (List aj)) => ⟨tab [(7, .loc 0 0 qq.length)], ai (iv qq), 1⟩) bB cC hl (by unfold bB; omega) ?_ ?_ ?_
 · rintro i3 l2 xr8 hinv6 hgo5 h; have hc7 := dy hgo5; refine al ?_; refine qq ?_; refine nI ?_; refine cE 22 rfl fun hB4 => ?_; refine aB ?_; refine aR rfl hc7 ?_; refine be ?_; refine aB ?_; refine bz ?_; obtain ⟨x9, hx9, h⟩ := ap h; refine al ?_; refine qq ?_; refine step (bV (xs := r1.1) (e := (D.int .i64)) hx9 rfl rfl) ?_; refine q3 ?_; refine nI ?_; obtain ⟨x10, hx10, h⟩ := ap h; refine al ?_; refine q4 ?_; refine step (bV (xs := a0.Hosts) (e := eapi_Port) hx10 rfl rfl) ?_; refine q3 ?_; refine nI ?_; obtain ⟨y14, hv, h⟩ := ap h; refine gB ⟨tab [(2, bn a0), (3, fu a1), (5, cM r1.1), (7, .loc 0 0 l2.length), (9, vi x9), (10, vh y14), (21, cM r1.1), (22, vi (r1.1.length : Int)), (23, vi i3)], ai (iv l2), 1⟩ ?_ ?_
   · replace h := hv; refine al ?_; refine qq ?_; refine step (co (cq hinv6 hgo5 hB4) rfl rfl) ?_; refine qq ?_; refine step (bF (xs := r1.1) (e := (D.int .i64)) rfl) ?_; refine qq ?_; refine nI ?_; by_cases hc11 : decide ((i3 + 1) < (r1.1.length : Int)) = true
     · replace h := aW hc11 h; refine aR rfl hc11 ?_; obtain ⟨x12, hx12, h⟩ := ap h; obtain ⟨r13, hr13, h⟩ := ap h; cases sj h; refine b9 (And.intro rfl rfl) ?_; refine q4 ?_; refine step (co (cq hinv6 hgo5 hB4) rfl rfl) ?_; refine step (bV (xs := r1.1) (e := (D.int .i64)) hx12 rfl rfl) ?_; refine qq ?_; refine bQ (aP (aP (aP bk.nil'))) (DI hr13) ?_; refine q4 ?_; exact nR [0]
     · replace h := aX hc11 h; refine aQ rfl hc11 ?_; cases sj h; refine b8 [(2, bn a0), (3, fu a1), (5, cM r1.1), (7, .loc 0 0 l2.length), (9, vi x9), (10, vh x10.Pt), (21, cM r1.1), (22, vi (r1.1.length : Int)), (23, vi i3)] ?_; refine be ?_; exact ⟨rfl, rfl⟩
   obtain ⟨x16, hx16, h⟩ := ap h; obtain ⟨r17, hr17, h⟩ := ap h; obtain ⟨r18, hr18, h⟩ := ap h; obtain ⟨l19, hl19, h⟩ := ap h; refine rG ⟨tab [(2, bn a0), (3, fu a1), (5, cM r1.1), (7, .loc 0 0 l2.length), (11, .loc 1 0 l19.length), (21, cM r1.1), (22, vi (r1.1.length : Int)), (23, vi i3)], ai [(0, .lst false (some 4) (List.map bm l2)), (1, .lst false (some 4) (List.map bm l19))], 2⟩ ?_ ?_
   · refine bL [] [] (v := rN a1) rfl rfl rfl ?_; refine bL [] [] (v := bn a0) rfl rfl rfl ?_; refine bL [] [] (v := cR a0.Switches) rfl rfl rfl ?_; refine bL [] [] (v := vi x9) rfl rfl rfl ?_; refine bL [] [] (v := .d (.cptr none (.int .u16 x16) 0)) (bV (xs := a0.Switches) (e := (D.int .u16)) hx16 rfl rfl) rfl rfl ?_; refine bL [] [] (v := vh x16) rfl rfl rfl ?_; refine k6 (r := cg r17) [] (aP (aP bk.nil')) (oW hr17) rfl ?_; refine bL [] [] (v := .loc 1 0 (([r17] : List aj).length)) (σ' := (am (ai (iv l2)) 1 (some (.lst true (some 4) (List.map bm ([r17] : List aj)))))) (n' := 2) (yN rfl (by simp only [List.map, eH])) rfl rfl ?_; refine Bj (σ' := (am (am (am (ai (iv l2)) 1 (some (.lst true (some 4) (List.map bm ([r17] : List aj))))) 1 none) 2 (some (.lst false (some 4) (List.map bm r18))))) (R := [1]) (W := [1]) (m := 3) (Bm [1] (dg.frz (wv hr18)) (by decide) (by decide) (by decide) (nv (show 1 < 2 by decide) nw) [(1, .lst true (some 4) (List.map bm ([r17] : List aj)))] rfl (dl.c (.d _) (dl.c (.lc 0) dl.nil0)) (SN.c (show 0 < 1 by decide) rfl (.lst _ _ _) SN.nil0) (.loc 2 0 r18.length) rfl [(1, none), (2, some (.lst false (some 4) (List.map bm r18)))] [1] 3 rfl rfl rfl rfl (fun _ => rfl)) ⟨rfl, trivial⟩ rfl rfl ?_; refine bL [] [] (v := vh y14) rfl rfl rfl ?_; refine bL [] [] (v := vs1 (aj.mk 5 1 y14 [])) (eA (ds := [.int .i64 5, .int .i64 1, .int .u16 y14, eL (some 4) bm []]) rfl) rfl rfl ?_; refine bL [] [] (v := bX ([(aj.mk 5 1 y14 [])] : List aj)) (jb rfl (by simp [eL, eH])) rfl rfl ?_; refine bL [2] [2] (v := .loc 3 0 l19.length) (σ' := (am (am (am (am (am (ai (iv l2)) 1 (some (.lst true (some 4) (List.map bm ([r17] : List aj))))) 1 none) 2 (some (.lst false (some 4) (List.map bm r18)))) 2 none) 3 (some (.lst false (some 4) (List.map bm l19))))) (n' := 4) (eY (xs := r18) (ys := ([(aj.mk 5 1 y14 [])] : List aj)) (e := bm) hl19 rfl rfl rfl (fB (xs := ([(aj.mk 5 1 y14 [])] : List aj)) (e := bm) rfl)) rfl rfl ?_; refine bL [] [] (v := .loc 3 0 l19.length) rfl rfl rfl ?_; exact cu.nil' ⟨by decide, nr [0, 3]⟩
   obtain ⟨l20, hl20, h⟩ := ap h; refine dL ⟨tab [(2, bn a0), (3, fu a1), (5, cM r1.1), (7, .loc 0 0 l20.length), (21, cM r1.1), (22, vi (r1.1.length : Int)), (23, vi i3)], ai (iv l20), 1⟩ ?_ ?_
   · refine q3 ?_; refine step (tS (ds := List.map bm ([(aj.mk 6 0 0 l19)] : List aj)) (gC (f := fun x => du _ (aC _ x)) (tR (gC jc (gC jc (gC jc (gC (BQ (xs := l19) rfl rfl) nu))))) nu) rfl) ?_; refine step (eY (xs := l2) (ys := ([(aj.mk 6 0 0 l19)] : List aj)) (e := bm) hl20 rfl rfl rfl (tL (xs := ([(aj.mk 6 0 0 l19)] : List aj)) (e := bm) rfl rfl rfl)) ?_; refine qq ?_; exact nR [3]
   cases sj h; refine b9 (And.intro rfl rfl) ?_; refine step (co (cq hinv6 hgo5 hB4) rfl rfl) ?_; refine qq ?_; exact nR [0]
 · rintro i3 l2 hinv6 hgo5; have hc7 := dn hgo5; refine al ?_; refine qq ?_; refine nI ?_; refine aB ?_; refine aQ rfl hc7 ?_; refine b8 [(7, .loc 0 0 l2.length)] ?_; refine cm ?_; exact ⟨rfl, rfl⟩
 refine aI ⟨tab [(4, .loc 0 0 z21.length)], ai (iv z21), 1⟩ ?_ ?_
 · refine q2 ?_; exact nR [0]
 have hh := bK h; subst hh; refine aZ ?_; exact bH (.inr rfl) (aL (v := .loc 0 0 z21.length) rfl rfl) (RV.loc (xs := z21) (e := bm) rfl rfl trivial)
theorem ww {a0 : (List aj)} {r : aj} (h : ma a0 = some r) : PCall Try.prog 61 [eL (some 4) bm a0] (cg r) := by
 refine PCall.inW Cn ?_; refine aI ⟨tab [(0, bX a0), (2, .ptr 0 0 0)], ai [(0, eR)], 1⟩ ?_ ?_
 · refine qq ?_; exact nR [0]
 refine aB ?_; refine al ?_; refine qq ?_; refine step (bF (xs := a0) (e := bm) rfl) ?_; refine nT [(0, bX a0), (2, .ptr 0 0 0), (4, vi (a0.length : Int))] ?_; refine bz ?_; refine al ?_; refine q2 ?_; refine nI ?_; by_cases hc1 : ((a0.length : Int) == 0) = true
 · replace h := aW hc1 h; refine aR rfl hc1 ?_; refine aI ⟨tab [(2, .ptr 0 0 0)], ai [(0, eR)], 1⟩ ?_ ?_
   · refine step (eA (ds := [.int .i64 0, .int .i64 0, .int .u16 0, eL (some 4) bm []]) rfl) ?_; refine qq ?_; exact nR [0]
   cases sj h; refine aZ ?_; exact bH (.inr rfl) (fO (ds := [.int .i64 0, .int .i64 0, .int .u16 0, eL (some 4) bm []]) rfl rfl (show 4 ≤ 4 by decide) rfl rfl) (RV.d trivial)
 · replace h := aX hc1 h; refine aQ rfl hc1 ?_; refine al ?_; refine q2 ?_; refine nI ?_; by_cases hc2 : ((a0.length : Int) == 1) = true
   · replace h := aW hc2 h; refine aR rfl hc2 ?_; obtain ⟨x3, hx3, h⟩ := ap h; refine aI ⟨tab [(2, .ptr 0 0 0)], ai [(0, jw x3)], 1⟩ ?_ ?_
     · refine qq ?_; refine step (gg (xs := a0) (e := bm) hx3 rfl rfl (eH _)) ?_; refine q2 ?_; exact nR [0]
     have hh := bK h; subst hh; refine aZ ?_; exact bH (.inr rfl) (fO (ds := [.int .i64 x3.Op, .int .i64 x3.F, .int .u16 x3.N, eL (some 4) bm x3.Kids]) rfl rfl (show 4 ≤ 4 by decide) rfl rfl) (RV.d trivial)
   · replace h := aX hc2 h; refine aQ rfl hc2 ?_; refine be ?_; refine aI ⟨tab [(2, .ptr 0 0 0)], ai [(0, .var [vi 7, vi 0, vh 0, bX a0])], 1⟩ ?_ ?_
     · refine qq ?_; refine step (eA (ds := [.int .i64 7, .int .i64 0, .int .u16 0, eL (some 4) bm a0]) rfl) ?_; refine qq ?_; exact nR [0]
     cases sj h; refine aZ ?_; exact bH (.inr rfl) (fO (ds := [.int .i64 7, .int .i64 0, .int .u16 0, eL (some 4) bm a0]) rfl rfl (show 4 ≤ 4 by decide) rfl rfl) (RV.d trivial)
theorem DK {self : aj → Option Int} (hself : ∀ (a0 : aj) (r : Int), self a0 = some r → PCall Try.prog 62 [cg a0] (.int .i64 r)) {a0 : aj} {r : Int} (h : mb self a0 = some r) : PCall Try.prog 62 [cg a0] (.int .i64 r) := by
 refine PCall.inW Cp ?_; refine al ?_; refine q2 ?_; refine nO ?_; refine qq ?_; refine nI ?_; refine aB ?_; refine al ?_; refine q2 ?_; refine step (bF (xs := a0.Kids) (e := bm) rfl) ?_; refine qq ?_; refine nT [(3, vi 1), (7, bX a0.Kids), (8, vi (a0.Kids.length : Int)), (9, vi 0)] ?_; obtain ⟨z10, hl, h⟩ := ap h; refine bz ?_; refine fN (cB (a0.Kids.length : Int)) (fun (i2 : Int) (qq : Int) => ⟨tab [(3, vi qq), (7, bX a0.Kids), (8, vi (a0.Kids.length : Int)), (9, vi i2)], ai [], 0⟩) 0 (fun (qq : Int) => ⟨tab [(3, vi qq)], ai [], 0⟩) bB cC hl (by unfold bB; omega) ?_ ?_ ?_
 · rintro i2 i1 xr7 hinv5 hgo4 h; have hc6 := dy hgo4; refine al ?_; refine qq ?_; refine nI ?_; refine cE 8 rfl fun hB3 => ?_; refine aB ?_; refine aR rfl hc6 ?_; refine be ?_; refine aB ?_; refine bz ?_; obtain ⟨x8, hx8, h⟩ := ap h; refine aI ⟨tab [(3, vi i1), (5, .ptr 0 0 0), (7, bX a0.Kids), (8, vi (a0.Kids.length : Int)), (9, vi i2)], ai [(0, jw x8)], 1⟩ ?_ ?_
   · refine step (gg (xs := a0.Kids) (e := bm) hx8 rfl rfl (eH _)) ?_; refine q3 ?_; exact nR [0]
   obtain ⟨r9, hr9, h⟩ := ap h; refine dL ⟨tab [(3, vi (IntKind.i64.wrap (i1 + r9))), (7, bX a0.Kids), (8, vi (a0.Kids.length : Int)), (9, vi i2)], ai [], 0⟩ ?_ ?_
   · refine qq ?_; refine step (dH (ds := [.int .i64 x8.Op, .int .i64 x8.F, .int .u16 x8.N, eL (some 4) bm x8.Kids]) rfl rfl (show 4 ≤ 4 by decide) rfl) ?_; refine bQ (aP bk.nil') (hself _ _ hr9) ?_; refine q2 ?_; exact nR []
   cases sj h; refine b9 (And.intro rfl rfl) ?_; refine step (co (cq hinv5 hgo4 hB3) rfl rfl) ?_; refine qq ?_; exact nR []
 · rintro i2 i1 hinv5 hgo4; have hc6 := dn hgo4; refine al ?_; refine qq ?_; refine nI ?_; refine aB ?_; refine aQ rfl hc6 ?_; refine b8 [(3, vi i1)] ?_; refine cm ?_; exact ⟨rfl, rfl⟩
 refine aI ⟨tab [(2, vi z10)], ai [], 0⟩ ?_ ?_
 · refine q2 ?_; exact nR []
 cases sj h; refine aZ ?_; exact bH (.inr rfl) (aL rfl rfl) (RV.d trivial)
theorem wx : ∀ (k : Nat) (a0 : aj) (r : Int), jf k a0 = some r → PCall Try.prog 62 [cg a0] (.int .i64 r)
 | 0, _, _, h => by cases h
 | k + 1, _, _, h => DK (wx k) h
theorem DL {a0 : aj} {r : Int} (h : qe a0 = some r) : PCall Try.prog 62 [cg a0] (.int .i64 r) := wx cX _ _ h
theorem DM {self : aj → Option Int} (hself : ∀ (a0 : aj) (r : Int), self a0 = some r → PCall Try.prog 63 [cg a0] (.int .i64 r)) {a0 : aj} {r : Int} (h : mc self a0 = some r) : PCall Try.prog 63 [cg a0] (.int .i64 r) := by
 refine PCall.inW Cr ?_; refine al ?_; refine q2 ?_; refine nO ?_; refine qq ?_; refine nI ?_; refine aB ?_; refine al ?_; refine q2 ?_; refine step (bF (xs := a0.Kids) (e := bm) rfl) ?_; refine qq ?_; refine nT [(3, vi 0), (7, bX a0.Kids), (8, vi (a0.Kids.length : Int)), (9, vi 0)] ?_; obtain ⟨z10, hl, h⟩ := ap h; refine bz ?_; refine fN (cB (a0.Kids.length : Int)) (fun (i2 : Int) (qq : Int) => ⟨tab [(3, vi qq), (7, bX a0.Kids), (8, vi (a0.Kids.length : Int)), (9, vi i2)], ai [], 0⟩) 0 (fun (qq : Int) => ⟨tab [(3, vi qq)], ai [], 0⟩) bB cC hl (by unfold bB; omega) ?_ ?_ ?_
 · rintro i2 i1 xr7 hinv5 hgo4 h; have hc6 := dy hgo4; refine al ?_; refine qq ?_; refine nI ?_; refine cE 8 rfl fun hB3 => ?_; refine aB ?_; refine aR rfl hc6 ?_; refine be ?_; refine aB ?_; refine bz ?_; obtain ⟨x8, hx8, h⟩ := ap h; refine aI ⟨tab [(3, vi i1), (5, .ptr 0 0 0), (7, bX a0.Kids), (8, vi (a0.Kids.length : Int)), (9, vi i2)], ai [(0, jw x8)], 1⟩ ?_ ?_
   · refine step (gg (xs := a0.Kids) (e := bm) hx8 rfl rfl (eH _)) ?_; refine q3 ?_; exact nR [0]
   obtain ⟨r9, hr9, h⟩ := ap h; refine dL ⟨tab [(3, vi (fM i1 r9)), (7, bX a0.Kids), (8, vi (a0.Kids.length : Int)), (9, vi i2)], ai [], 0⟩ ?_ ?_
   · refine qq ?_; refine step (dH (ds := [.int .i64 x8.Op, .int .i64 x8.F, .int .u16 x8.N, eL (some 4) bm x8.Kids]) rfl rfl (show 4 ≤ 4 by decide) rfl) ?_; refine bQ (aP bk.nil') (hself _ _ hr9) ?_; refine q2 ?_; exact nR []
   cases sj h; refine b9 (And.intro rfl rfl) ?_; refine step (co (cq hinv5 hgo4 hB3) rfl rfl) ?_; refine qq ?_; exact nR []
 · rintro i2 i1 hinv5 hgo4; have hc6 := dn hgo4; refine al ?_; refine qq ?_; refine nI ?_; refine aB ?_; refine aQ rfl hc6 ?_; refine b8 [(3, vi i1)] ?_; refine cm ?_; exact ⟨rfl, rfl⟩
 refine aI ⟨tab [(2, vi (IntKind.i64.wrap (z10 + 1)))], ai [], 0⟩ ?_ ?_
 · refine q3 ?_; exact nR []
 cases sj h; refine aZ ?_; exact bH (.inr rfl) (aL rfl rfl) (RV.d trivial)
theorem wz : ∀ (k : Nat) (a0 : aj) (r : Int), jg k a0 = some r → PCall Try.prog 63 [cg a0] (.int .i64 r)
 | 0, _, _, h => by cases h
 | k + 1, _, _, h => DM (wz k) h
theorem DN {a0 : aj} {r : Int} (h : qg a0 = some r) : PCall Try.prog 63 [cg a0] (.int .i64 r) := wz cX _ _ h
theorem rT {a0 : api_Topo} {a1 : (List api_Want)} {r : (aj × Int)} (h : kP a0 a1 = some r) : PCall Try.prog 30 [eapi_Topo a0, eL (some 4) eapi_Want a1] (.tup [cg r.1, .int .i64 r.2]) := by
 refine PCall.inW Ct ?_; refine aI ⟨tab [(1, dR a1), (2, bn a0), (4, .ptr 0 0 0)], ai [(0, eR)], 1⟩ ?_ ?_
 · refine q3 ?_; exact nR [0]
 refine aB ?_; obtain ⟨r1, hr1, h⟩ := ap h; refine al ?_; refine qq ?_; refine bQ (aP bk.nil') (Dl hr1) ?_; refine qq ?_; refine nO ?_; refine q2 ?_; refine nI ?_; by_cases hc2 : (r1 != 0) = true
 · replace h := aW hc2 h; refine aR rfl hc2 ?_; refine aI ⟨tab [(4, .ptr 0 0 0), (5, vi r1)], ai [(0, eR)], 1⟩ ?_ ?_
   · refine step (eA (ds := [.int .i64 0, .int .i64 0, .int .u16 0, eL (some 4) bm []]) rfl) ?_; refine q3 ?_; exact nR [0]
   cases sj h; refine aZ ?_; exact ct (.inr rfl) (fO (ds := [.int .i64 0, .int .i64 0, .int .u16 0, eL (some 4) bm []]) rfl rfl (show 4 ≤ 4 by decide) rfl (aL rfl rfl)) (RV.d (RV.d trivial))
 · replace h := aX hc2 h; refine aQ rfl hc2 ?_; refine be ?_; refine al ?_; refine q2 ?_; refine nI ?_; refine aB ?_; refine al ?_; refine qq ?_; refine step (bF (xs := a1) (e := eapi_Want) rfl) ?_; refine qq ?_; refine nI ?_; obtain ⟨q35, hl, h⟩ := ap h; refine d7 (s0 := ⟨tab [(2, bn a0), (4, .ptr 0 0 0), (7, .loc 1 0 (([] : List aj).length)), (8, .loc 2 0 (([] : List aj).length)), (19, dR a1), (20, vi (a1.length : Int)), (21, vi 0)], ai [(0, eR), (1, .lst false (some 4) (List.map bm ([] : List aj))), (2, .lst false (some 4) (List.map bm ([] : List aj)))], 3⟩) (bP.trans (s2 := ⟨tab [(2, bn a0), (4, .ptr 0 0 0), (7, .loc 1 0 (([] : List aj).length)), (8, .loc 2 0 (([] : List aj).length)), (19, dR a1), (20, vi (a1.length : Int)), (21, vi 0)], ai [(0, eR), (1, .lst false (some 4) (List.map bm ([] : List aj))), (2, .lst false (some 4) (List.map bm ([] : List aj)))], 3⟩) (kJ 7 false (some 4) rfl) (bP.trans (s2 := ⟨tab [(2, bn a0), (4, .ptr 0 0 0), (7, .loc 1 0 (([] : List aj).length)), (8, .loc 2 0 (([] : List aj).length)), (19, dR a1), (20, vi (a1.length : Int)), (21, vi 0)], ai [(0, eR), (1, .lst false (some 4) (List.map bm ([] : List aj))), (2, .lst false (some 4) (List.map bm ([] : List aj)))], 3⟩) (kJ 8 false (some 4) rfl) (nr [0, 1, 2]))) ?_; refine bz ?_; refine dG (cB (a1.length : Int)) (fun (i5 : Int) (qq : ((List aj) × (List aj))) => ⟨tab [(2, bn a0), (4, .ptr 0 0 0), (7, .loc 1 0 qq.1.length), (8, .loc 2 0 qq.2.length), (19, dR a1), (20, vi (a1.length : Int)), (21, vi i5)], ai (oT qq.1 qq.2), 3⟩) 0 (fun (qq : ((List aj) × (List aj))) => ⟨tab [(4, .ptr 0 0 0), (7, .loc 1 0 qq.1.length), (8, .loc 2 0 qq.2.length)], ai (oT qq.1 qq.2), 3⟩) bB cC (r := r) hl (by unfold bB; omega) ?_ ?_ ?_ ?_
   · rintro i5 ⟨l3, l4⟩ xr10 hinv8 hgo7 h; have hc9 := dy hgo7; refine al ?_; refine qq ?_; refine nI ?_; refine cE 20 rfl fun hB6 => ?_; refine aB ?_; refine aR rfl hc9 ?_; refine be ?_; obtain ⟨q21, hv, h⟩ := ap h; refine lN (fun (qq : ((List aj) × (List aj))) => ⟨tab [(2, bn a0), (4, .ptr 0 0 0), (7, .loc 1 0 qq.1.length), (8, .loc 2 0 qq.2.length), (19, dR a1), (20, vi (a1.length : Int)), (21, vi i5)], ai (oT qq.1 qq.2), 3⟩) (xv := q21) (r := xr10) ?_ ?_ ?_
     · replace h := hv; refine bz ?_; obtain ⟨x11, hx11, h⟩ := ap h; refine aI ⟨tab [(2, bn a0), (4, .ptr 0 0 0), (7, .loc 1 0 l3.length), (8, .loc 2 0 l4.length), (10, .ptr 3 0 0), (19, dR a1), (20, vi (a1.length : Int)), (21, vi i5)], ai [(0, eR), (1, .lst false (some 4) (List.map bm l3)), (2, .lst false (some 4) (List.map bm l4)), (3, rO x11)], 4⟩ ?_ ?_
       · refine step (bV (xs := a1) (e := eapi_Want) hx11 rfl rfl) ?_; refine q3 ?_; exact nR [0, 1, 2, 3]
       refine aB ?_; obtain ⟨r12, hr12, h⟩ := ap h; refine al ?_; refine qq ?_; refine step (dH (ds := [.int .i64 x11.From, .int .i64 x11.To, eL (some 2) eapi_Pair x11.Match, .bool x11.Ban]) rfl rfl (show 4 ≤ 4 by decide) rfl) ?_; refine bQ (aP (aP bk.nil')) (DH hr12) ?_; refine qq ?_; refine nO ?_; refine q2 ?_; refine nI ?_; by_cases hc13 : (r12 != 0) = true
       · replace h := aW hc13 h; refine aR rfl hc13 ?_; refine aI ⟨tab [(4, .ptr 0 0 0), (5, vi r12)], ai [(0, eR)], 1⟩ ?_ ?_
         · refine step (eA (ds := [.int .i64 0, .int .i64 0, .int .u16 0, eL (some 4) bm []]) rfl) ?_; refine q3 ?_; exact nR [0]
         obtain ⟨r14, kr14, hr⟩ := cx (o := some (Br.ret ((aj.mk 0 0 0 []), r12))) (g := Sum.inr) h; subst hr; have h := kr14; obtain ⟨r15, kr15, hr⟩ := cx (o := some ((aj.mk 0 0 0 []), r12)) (g := Br.ret) h; subst hr; have h := kr15; cases sj h; refine aZ ?_; refine And.intro (fun hn => nomatch hn) ?_; intro hq; have hq := hq.symm; subst hq; refine And.intro (fun hn => nomatch hn) ?_; intro hq; have hq := hq.symm; subst hq; exact ct (.inr rfl) (fO (ds := [.int .i64 0, .int .i64 0, .int .u16 0, eL (some 4) bm []]) rfl rfl (show 4 ≤ 4 by decide) rfl (aL rfl rfl)) (RV.d (RV.d trivial))
       · replace h := aX hc13 h; refine aQ rfl hc13 ?_; refine be ?_; refine aB ?_; refine al ?_; refine q2 ?_; refine nI ?_; by_cases hc14 : x11.Ban = true
         · replace h := aW hc14 h; refine aR rfl hc14 ?_; obtain ⟨r15, hr15, h⟩ := ap h; obtain ⟨l16, hl16, h⟩ := ap h; refine aI ⟨tab [(2, bn a0), (4, .ptr 0 0 0), (7, .loc 1 0 l3.length), (8, .loc 2 0 l16.length), (19, dR a1), (20, vi (a1.length : Int)), (21, vi i5)], ai (oT l3 l16), 3⟩ ?_ ?_
           · refine qq ?_; refine step (dH (ds := [.int .i64 x11.From, .int .i64 x11.To, eL (some 2) eapi_Pair x11.Match, .bool x11.Ban]) rfl rfl (show 4 ≤ 4 by decide) rfl) ?_; refine lK (v := bX r15) (σ' := _) (n' := _) (Bt (BO [eapi_Want x11] (wv hr15) (by simp)) (aP (aP bk.nil'))) (Nat.le_refl _) ?_; refine step (v := vs1 (aj.mk 6 0 0 r15)) (eA (ds := [.int .i64 6, .int .i64 0, .int .u16 0, eL (some 4) bm r15]) rfl) ?_; refine step (v := bX ([(aj.mk 6 0 0 r15)] : List aj)) (jb rfl (by simp [eL, eH])) ?_; refine step (eY (xs := l4) (ys := ([(aj.mk 6 0 0 r15)] : List aj)) (e := bm) hl16 rfl rfl rfl (fB (xs := ([(aj.mk 6 0 0 r15)] : List aj)) (e := bm) rfl)) ?_; refine qq ?_; exact nR [0, 1, 4]
           cases sj h; refine b8 [(2, bn a0), (4, .ptr 0 0 0), (7, .loc 1 0 l3.length), (8, .loc 2 0 l16.length), (19, dR a1), (20, vi (a1.length : Int)), (21, vi i5)] ?_; refine cm ?_; exact ⟨rfl, rfl⟩
         · replace h := aX hc14 h; refine aQ rfl hc14 ?_; refine be ?_; obtain ⟨r17, hr17, h⟩ := ap h; obtain ⟨l18, hl18, h⟩ := ap h; cases sj h; refine b9 (And.intro rfl rfl) ?_; refine q2 ?_; refine step (dH (ds := [.int .i64 x11.From, .int .i64 x11.To, eL (some 2) eapi_Pair x11.Match, .bool x11.Ban]) rfl rfl (show 4 ≤ 4 by decide) rfl) ?_; refine bQ (aP (aP bk.nil')) (DJ hr17) ?_; refine step (eY (xs := l3) (ys := r17) (e := bm) hl18 rfl rfl rfl (fB (xs := r17) (e := bm) rfl)) ?_; refine qq ?_; exact nR [0, 4, 2]
     · intro r' hq; subst hq; exact bK h
     rintro ⟨l19, l20⟩ rfl; cases sj h; refine b9 (And.intro rfl rfl) ?_; refine step (co (cq hinv8 hgo7 hB6) rfl rfl) ?_; refine qq ?_; exact nR [0, 1, 2]
   · rintro i5 ⟨l3, l4⟩ hinv8 hgo7; have hc9 := dn hgo7; refine al ?_; refine qq ?_; refine nI ?_; refine aB ?_; refine aQ rfl hc9 ?_; refine b8 [(4, .ptr 0 0 0), (7, .loc 1 0 l3.length), (8, .loc 2 0 l4.length)] ?_; refine cm ?_; exact ⟨rfl, rfl⟩
   · intro r' hq; subst hq; exact bK h
   rintro ⟨z22, z23⟩ rfl; obtain ⟨r24, hr24, h⟩ := ap h; refine aI ⟨tab [(4, .ptr 0 0 0), (8, .loc 1 0 z23.length), (12, .ptr 2 0 0)], ai [(0, eR), (1, .lst false (some 4) (List.map bm z23)), (2, jw r24)], 3⟩ ?_ ?_
   · refine qq ?_; refine bQ (pV (xs := z22) (e := bm) rfl rfl bk.nil') (ww hr24) ?_; refine q2 ?_; exact nR [0, 2, 3]
   obtain ⟨y27, hv, h⟩ := ap h; refine gB ⟨tab [(4, .ptr 0 0 0), (12, .ptr 1 0 0)], ai [(0, eR), (1, jw y27)], 2⟩ ?_ ?_
   · replace h := hv; refine al ?_; refine q3 ?_; refine nI ?_; by_cases hc25 : decide ((z23.length : Int) > 0) = true
     · replace h := aW hc25 h; refine aR rfl hc25 ?_; obtain ⟨r26, hr26, h⟩ := ap h; cases sj h; refine dL ⟨tab [(4, .ptr 0 0 0), (12, .ptr 1 0 0)], ai [(0, eR), (1, .var [vi ((aj.mk 6 0 0 ([(aj.mk 4 0 0 ([r26] : List aj)), r24] : List aj)).Op), vi ((aj.mk 6 0 0 ([(aj.mk 4 0 0 ([r26] : List aj)), r24] : List aj)).F), vh ((aj.mk 6 0 0 ([(aj.mk 4 0 0 ([r26] : List aj)), r24] : List aj)).N), bX ((aj.mk 6 0 0 ([(aj.mk 4 0 0 ([r26] : List aj)), r24] : List aj)).Kids)])], 2⟩ ?_ ?_
       · refine qq ?_; refine bQ (pV (xs := z23) (e := bm) rfl rfl bk.nil') (ww hr26) ?_; refine step (v := bX ([r26] : List aj)) (jb rfl (by simp [eL, eH])) ?_; refine step (v := vs1 (aj.mk 4 0 0 ([r26] : List aj))) (eA (ds := [.int .i64 4, .int .i64 0, .int .u16 0, eL (some 4) bm ([r26] : List aj)]) rfl) ?_; refine step (v := vs1 r24) (dH (ds := [.int .i64 r24.Op, .int .i64 r24.F, .int .u16 r24.N, eL (some 4) bm r24.Kids]) rfl rfl (show 4 ≤ 4 by decide) rfl) ?_; refine step (v := bX ([(aj.mk 4 0 0 ([r26] : List aj)), r24] : List aj)) (jb rfl (by simp [eL, eH])) ?_; refine step (eA (ds := [.int .i64 6, .int .i64 0, .int .u16 0, eL (some 4) bm ([(aj.mk 4 0 0 ([r26] : List aj)), r24] : List aj)]) rfl) ?_; refine qq ?_; exact nR [0, 2]
       exact ⟨rfl, rfl⟩
     · replace h := aX hc25 h; refine aQ rfl hc25 ?_; cases sj h; refine d7 (s0 := ⟨tab [(4, .ptr 0 0 0), (12, .ptr 1 0 0)], ai [(0, eR), (1, jw r24)], 2⟩) (nr [0, 2]) ?_; refine be ?_; exact ⟨rfl, rfl⟩
   refine aB ?_; obtain ⟨r29, hr29, h⟩ := ap h; obtain ⟨y32, hv, h⟩ := ap h; refine aI ⟨tab [(4, .ptr 0 0 0), (12, .ptr 1 0 0), (65, vb y32)], ai [(0, eR), (1, jw y27)], 2⟩ ?_ ?_
   · refine step (dH (ds := [.int .i64 y27.Op, .int .i64 y27.F, .int .u16 y27.N, eL (some 4) bm y27.Kids]) rfl rfl (show 4 ≤ 4 by decide) rfl) ?_; refine bQ (aP bk.nil') (DL hr29) ?_; refine q2 ?_; by_cases hg30 : decide (r29 > 300) = true
     · replace hv := aW hg30 hv; (iterate 3 refine qX (decide (r29 > 300)) (by rw [hg30]; decide) ?_); refine step (bp rfl hg30 rfl) ?_; cases sj hv; exact nR [0, 1]
     · replace hv := aX hg30 hv; obtain ⟨r31, hr31, hv⟩ := ap hv; refine qG _ (bf hg30) ?_; refine step (dH (ds := [.int .i64 y27.Op, .int .i64 y27.F, .int .u16 y27.N, eL (some 4) bm y27.Kids]) rfl rfl (show 4 ≤ 4 by decide) rfl) ?_; refine qG _ (bf hg30) ?_; refine bQ (aP bk.nil') (DN hr31) ?_; refine gq (bf hg30) ?_; refine step (bv rfl hg30 rfl) ?_; cases sj hv; exact nR [0, 1]
   by_cases hc34 : y32 = true
   · replace h := aW hc34 h; refine aR rfl hc34 ?_; refine aI ⟨tab [(4, .ptr 0 0 0), (5, vi 2)], ai [(0, eR)], 1⟩ ?_ ?_
     · refine step (eA (ds := [.int .i64 0, .int .i64 0, .int .u16 0, eL (some 4) bm []]) rfl) ?_; refine q2 ?_; exact nR [0]
     cases sj h; refine aZ ?_; exact ct (.inr rfl) (fO (ds := [.int .i64 0, .int .i64 0, .int .u16 0, eL (some 4) bm []]) rfl rfl (show 4 ≤ 4 by decide) rfl (aL rfl rfl)) (RV.d (RV.d trivial))
   · replace h := aX hc34 h; refine aQ rfl hc34 ?_; refine be ?_; refine aI ⟨tab [(4, .ptr 0 0 0), (5, vi 0)], ai [(0, jw y27)], 1⟩ ?_ ?_
     · refine step (dH (ds := [.int .i64 y27.Op, .int .i64 y27.F, .int .u16 y27.N, eL (some 4) bm y27.Kids]) rfl rfl (show 4 ≤ 4 by decide) rfl) ?_; refine q2 ?_; exact nR [0]
     cases sj h; refine aZ ?_; exact ct (.inr rfl) (fO (ds := [.int .i64 y27.Op, .int .i64 y27.F, .int .u16 y27.N, eL (some 4) bm y27.Kids]) rfl rfl (show 4 ≤ 4 by decide) rfl (aL rfl rfl)) (RV.d (RV.d trivial))
theorem DO {a0 : Int} {r : Bool} (h : t7 a0 = some r) : PCall Try.prog 100 [.int .i64 a0] (.bool r) := by
 refine PCall.inW Cu ?_; refine al ?_; refine qq ?_; refine nI ?_; refine aI ⟨tab [(2, vb ((decide (a0 ≥ 0)) && (decide (a0 < 8))))], ai [], 0⟩ ?_ ?_
 · refine q3 ?_; by_cases hg1 : decide (a0 ≥ 0) = true
   · refine gq hg1 ?_; refine gq hg1 ?_; refine step (bp rfl hg1 rfl) ?_; refine qq ?_; exact aO.nil' (nm [] ⟨.eq (by first | (simp [hg1]; done) | (simp_all; done) | grind), trivial⟩ trivial)
   · (iterate 2 refine gX hg1 ?_); refine step (bv rfl hg1 rfl) ?_; refine qq ?_; exact aO.nil' (nm [] ⟨.eq (by first | (simp [hg1]; done) | (simp_all; done) | grind), trivial⟩ trivial)
 cases sj h; refine aZ ?_; exact bH (.inr rfl) (aL rfl rfl) (RV.d trivial)
theorem DP {a0 : api_Pair} {a1 : (A8 Int)} {r : Bool} (h : t8 a0 a1 = some r) : PCall Try.prog 106 [eapi_Pair a0, .cptr (some 8) (aq (D.int .u16) a1) 0] (.bool r) := by
 refine PCall.inW Cv ?_; refine al ?_; refine q2 ?_; refine nI ?_; obtain ⟨r1, hr1, h⟩ := ap h; obtain ⟨y4, hv, h⟩ := ap h; refine aI ⟨tab [(3, vb y4)], ai [], 0⟩ ?_ ?_
 · refine q2 ?_; refine bQ (aP bk.nil') (DO hr1) ?_; refine q2 ?_; by_cases hg2 : (!r1) = true
   · replace hv := aW hg2 hv; (iterate 7 refine qX (!r1) (by rw [hg2]; decide) ?_); refine step (bp rfl hg2 rfl) ?_; refine qq ?_; cases sj hv; exact nR []
   · replace hv := aX hg2 hv; obtain ⟨x3, hx3, hv⟩ := ap hv; refine gq (bf hg2) ?_; refine gq (bf hg2) ?_; refine qG _ (bf hg2) ?_; refine step (kK (xs := a1.l) hx3 rfl rfl rfl) ?_; refine qG _ (bf hg2) ?_; refine step (yU rfl (kI (e := (D.int .u16)) (xs := a1.l) (pre := []) (post := []) hx3 rfl (by decide))) ?_; refine gq (bf hg2) ?_; refine gq (bf hg2) ?_; refine gq (bf hg2) ?_; refine step (bv rfl hg2 rfl) ?_; refine qq ?_; cases sj hv; exact nR []
 cases sj h; refine aZ ?_; exact bH (.inr rfl) (aL rfl rfl) (RV.d trivial)
theorem DQ {a0 : (List api_Pair)} {a1 : api_Pair → Option Bool} {g_a1 : D} (hf_a1 : pQ Try.prog g_a1 eapi_Pair D.bool a1) {r : Int} (h : ua a0 a1 = some r) : PCall Try.prog 120 [eL (some 2) eapi_Pair a0, g_a1] (.int .i64 r) := by
 obtain ⟨fn_a1, cap_a1, rfl, hc_a1⟩ := hf_a1; refine PCall.inW Cx ?_; refine al ?_; refine qq ?_; refine nI ?_; refine aB ?_; refine al ?_; refine qq ?_; refine step (bF (xs := a0) (e := eapi_Pair) rfl) ?_; refine qq ?_; refine nT [(0, cQ a0), (1, .d (.func fn_a1 cap_a1)), (7, vi (a0.length : Int)), (8, vi 0)] ?_; obtain ⟨q10, hl, h⟩ := ap h; refine bz ?_; refine dG (cB (a0.length : Int)) (fun (i1 : Int) (qq : Unit) => ⟨tab [(0, cQ a0), (1, .d (.func fn_a1 cap_a1)), (7, vi (a0.length : Int)), (8, vi i1)], ai [], 0⟩) 0 (fun (qq : Unit) => ⟨tab [], ai [], 0⟩) bB cC (r := r) hl (by unfold bB; omega) ?_ ?_ ?_ ?_
 · rintro i1 ⟨⟩ xr6 hinv4 hgo3 h; have hc5 := dy hgo3; refine al ?_; refine qq ?_; refine nI ?_; refine cE 7 rfl fun hB2 => ?_; refine aB ?_; refine aR rfl hc5 ?_; refine be ?_; refine aB ?_; refine bz ?_; refine al ?_; refine q2 ?_; refine nI ?_; obtain ⟨x7, hx7, h⟩ := ap h; obtain ⟨x8, hx8, h⟩ := ap h; refine al ?_; refine q3 ?_; refine step (bV (xs := a0) (e := eapi_Pair) hx7 rfl rfl) ?_; refine qq ?_; refine m9 (r := .bool x8) rfl (aP bk.nil') (hc_a1 _ _ hx8) ?_; refine nI ?_; by_cases hc9 : x8 = true
   · replace h := aW hc9 h; refine aR rfl hc9 ?_; refine al ?_; refine q2 ?_; refine nI ?_; obtain ⟨r10, kr10, hr⟩ := cx (o := some i1) (g := Br.ret) h; subst hr; have h := kr10; cases sj h; refine aZ ?_; refine And.intro (fun hn => nomatch hn) ?_; intro hq; have hq := hq.symm; subst hq; exact bH (.inr rfl) (aL rfl rfl) (RV.d trivial)
   · replace h := aX hc9 h; refine aQ rfl hc9 ?_; refine be ?_; cases sj h; refine b9 (And.intro rfl rfl) ?_; refine step (co (cq hinv4 hgo3 hB2) rfl rfl) ?_; refine qq ?_; exact nR []
 · rintro i1 ⟨⟩ hinv4 hgo3; have hc5 := dn hgo3; refine al ?_; refine qq ?_; refine nI ?_; refine aB ?_; refine aQ rfl hc5 ?_; refine b8 [] ?_; refine cm ?_; exact ⟨rfl, rfl⟩
 · intro r' hq; subst hq; exact bK h
 rintro ⟨⟩ rfl; refine aI ⟨tab [(4, vi (-1))], ai [], 0⟩ ?_ ?_
 · refine qq ?_; exact nR []
 cases sj h; refine aZ ?_; exact bH (.inr rfl) (aL rfl rfl) (RV.d trivial)
theorem DR {a0 : (List api_Pair)} {a1 : api_Pair → Option Bool} {g_a1 : D} (hf_a1 : pQ Try.prog g_a1 eapi_Pair D.bool a1) {r : Bool} (h : ub a0 a1 = some r) : PCall Try.prog 105 [eL (some 2) eapi_Pair a0, g_a1] (.bool r) := by
 obtain ⟨fn_a1, cap_a1, rfl, hc_a1⟩ := hf_a1; refine PCall.inW Cy ?_; refine al ?_; refine qq ?_; refine nI ?_; obtain ⟨r1, hr1, h⟩ := ap h; refine al ?_; refine q2 ?_; refine bQ (aP (aP bk.nil')) (DQ ⟨_, _, rfl, hc_a1⟩ hr1) ?_; refine q2 ?_; refine nI ?_; cases sj h; refine aZ ?_; exact bH (.inr rfl) (aL rfl rfl) (RV.d trivial)
theorem DS {a0 : (A8 Int)} {a1 : (List api_Pair)} {r : Bool} (h : uc a0 a1 = some r) : PCall Try.prog 90 [aq (D.int .u16) a0, eL (some 2) eapi_Pair a1] (.bool r) := by
 refine PCall.inW Cz ?_; refine al ?_; refine q2 ?_; refine nI ?_; obtain ⟨r1, hr1, h⟩ := ap h; refine al ?_; refine q2 ?_; refine bQ (aP (aP bk.nil')) (DR ⟨106, [.cptr (some 8) (aq (D.int .u16) a0) 0], rfl, fun _ _ h => DP h⟩ hr1) ?_; refine q2 ?_; refine nI ?_; cases sj h; refine aZ ?_; exact bH (.inr rfl) (aL rfl rfl) (RV.d trivial)
theorem DT {a0 : api_Want} {a1 : Int} {a2 : (A8 Int)} {r : Bool} (h : ud a0 a1 a2 = some r) : PCall Try.prog 64 [eapi_Want a0, .int .i64 a1, aq (D.int .u16) a2] (.bool r) := by
 refine PCall.inW CA ?_; refine al ?_; refine q3 ?_; refine nI ?_; obtain ⟨y5, hv, h⟩ := ap h; refine aI ⟨tab [(6, vb y5)], ai [], 0⟩ ?_ ?_
 · refine q4 ?_; refine qq ?_; by_cases hg1 : (a0.From == a1) = true
   · replace hv := aW hg1 hv; refine gq hg1 ?_; refine gq hg1 ?_; refine gq hg1 ?_; refine gq hg1 ?_; refine gq hg1 ?_; refine gq hg1 ?_; refine gq hg1 ?_; refine step (bp rfl hg1 rfl) ?_; refine qq ?_; by_cases hg2 : ((IntKind.i64.wrap ((IntKind.i64.wrap a2.a2) - 1)) == a0.From) = true
     · replace hv := aW hg2 hv; refine gq hg2 ?_; refine gq hg2 ?_; refine gq hg2 ?_; refine gq hg2 ?_; refine gq hg2 ?_; refine gq hg2 ?_; refine gq hg2 ?_; refine step (bp rfl hg2 rfl) ?_; refine qq ?_; by_cases hg3 : ((IntKind.i64.wrap ((IntKind.i64.wrap a2.a3) - 1)) == a0.To) = true
       · replace hv := aW hg3 hv; obtain ⟨r4, hr4, hv⟩ := ap hv; refine gq hg3 ?_; refine gq hg3 ?_; refine gq hg3 ?_; refine qG _ hg3 ?_; refine bQ (aP (aP bk.nil')) (DS hr4) ?_; refine step (bp rfl hg3 rfl) ?_; refine qq ?_; cases sj hv; exact nR []
       · replace hv := aX hg3 hv; (iterate 4 refine gX hg3 ?_); refine step (bv rfl hg3 rfl) ?_; refine qq ?_; cases sj hv; exact nR []
     · replace hv := aX hg2 hv; (iterate 7 refine gX hg2 ?_); refine step (bv rfl hg2 rfl) ?_; refine qq ?_; (iterate 4 refine qX false (by decide) ?_); refine step (bv rfl (by decide) rfl) ?_; refine qq ?_; cases sj hv; exact nR []
   · replace hv := aX hg1 hv; (iterate 7 refine gX hg1 ?_); refine step (bv rfl hg1 rfl) ?_; refine qq ?_; (iterate 7 refine qX false (by decide) ?_); refine step (bv rfl (by decide) rfl) ?_; refine qq ?_; (iterate 4 refine qX false (by decide) ?_); refine step (bv rfl (by decide) rfl) ?_; refine qq ?_; cases sj hv; exact nR []
 cases sj h; refine aZ ?_; exact bH (.inr rfl) (aL rfl rfl) (RV.d trivial)
end Go.AM
