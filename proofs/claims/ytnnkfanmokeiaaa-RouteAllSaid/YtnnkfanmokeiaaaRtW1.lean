import Derived.Test.YtnnkfanmokeiaaaRtE
set_option linter.unusedVariables false
set_option linter.unusedSimpArgs false
namespace Go.AM
open Go Go.RowKit Go.Proofs
attribute [local irreducible] aQ cB
set_option maxHeartbeats 2000000
theorem Ee {a0 : List api_Port} {r : List api_Port} (h : mt a0 = some r) : dp Try.prog 84 [.d (.vec (some 2) (List.map eapi_Port a0))] (ai []) 0 (.loc 0 0 r.length) (ai (nj r)) 1 := by
 cases a0 with
 | nil =>
  refine dp.empty ?_ ?_
  ·
   have h : some ([] : List api_Port) = some r := by simpa [mt, cY] using h
   refine dp.inW sd ?_
   refine dV (s0 := ⟨tab [(0, .d (.nils))], ai [], 0⟩) (nr []) ?_
   refine aj ?_
   refine qq ?_
   refine nI ?_
   refine aA ?_
   refine aj ?_
   iterate 2 refine qq ?_
   refine nI ?_
   refine aT rfl rfl ?_
   refine aj ?_
   refine qq ?_
   refine nI ?_
   cases sj h
   refine dV (s0 := ⟨tab [(2, .loc 0 0 (([] : List api_Port).length))], ai (nj ([] : List api_Port)), 1⟩) (bW.trans (s2 := ⟨tab [(2, .loc 0 0 (([] : List api_Port).length))], ai (nj ([] : List api_Port)), 1⟩) (jo 2 true (some 2) rfl) (nr [0])) ?_
   refine aY ?_
   exact ⟨.inr rfl, _, rfl, rfl, fW.sub ⟨rfl, trivial⟩, rfl⟩
  ·
   refine dp.inW sd ?_
   refine dV (s0 := ⟨tab [(0, .mapr 0)], ai [], 0⟩) (nm [] ⟨.mp _, trivial⟩ trivial) ?_
   refine aj ?_
   refine qq ?_
   refine nI ?_
   refine aA ?_
   refine aM ⟨tab [(0, ft ([] : List api_Port)), (4, vb false)], ai [], 0⟩ ?_ ?_
   ·
    iterate 2 refine qq ?_
    exact aQ.nil' (nm [] ⟨.nne _ _, .d _, trivial⟩ trivial)
   refine aS rfl (by decide) ?_
   refine aX ?_
   obtain ⟨l1, hl1, h⟩ := ap h
   refine aM ⟨tab [(2, .loc 0 0 l1.length)], ai (nj l1), 1⟩ ?_ ?_
   ·
    refine qq ?_
    refine qq ?_
    refine step (eR (xs := ([] : List api_Port)) (ys := ([] : List api_Port)) (e := eapi_Port) hl1 rfl rfl rfl (fk (xs := ([] : List api_Port)) (e := eapi_Port) rfl)) ?_
    refine qq ?_
    exact nR [1]
   cases sj h
   refine aY ?_
   exact ⟨.inr rfl, _, rfl, rfl, fW.sub ⟨rfl, trivial⟩, rfl⟩
 | cons x xs =>
  refine dp.inW sd ?_
  refine dV (s0 := ⟨tab [(0, ft (x :: xs))], ai [], 0⟩) (nr []) ?_
  refine aj ?_
  refine qq ?_
  refine nI ?_
  refine aA ?_
  refine aj ?_
  iterate 2 refine qq ?_
  refine nI ?_
  refine aS rfl (by decide) ?_
  refine aX ?_
  obtain ⟨l1, hl1, h⟩ := ap h
  refine aM ⟨tab [(2, .loc 0 0 l1.length)], ai (nj l1), 1⟩ ?_ ?_
  ·
   refine qq ?_
   refine qq ?_
   refine step (eR (xs := ([] : List api_Port)) (ys := (x :: xs)) (e := eapi_Port) hl1 rfl rfl rfl (fk (xs := (x :: xs)) (e := eapi_Port) rfl)) ?_
   refine qq ?_
   exact nR [1]
  cases sj h
  refine aY ?_
  exact ⟨.inr rfl, _, rfl, rfl, fW.sub ⟨rfl, trivial⟩, rfl⟩
theorem wX {a0 : api_Topo} {r : Int} (h : mu a0 = some r) : PCall Try.prog 57 [eapi_Topo a0] (.int .i64 r) := by
 refine PCall.inW Cx ?_; refine aj ?_; refine q2 ?_; refine nI ?_; refine aA ?_; refine aM ⟨tab [(1, aN a0), (27, vb ((decide ((a0.Switches.length : Int) > 12)) || ((decide ((a0.Links.length : Int) > 24)) || (decide ((a0.Hosts.length : Int) > 24)))))], ai [], 0⟩ ?_ ?_
 · refine q2 ?_; refine step (bx (xs := a0.Switches) (e := (D.int .u16)) rfl) ?_; refine q2 ?_; by_cases hg1 : decide ((a0.Switches.length : Int) > 12) = true
   · (iterate 4 refine qX (decide ((a0.Switches.length : Int) > 12)) (by rw [hg1]; decide) ?_); refine step (aW rfl hg1 rfl) ?_; refine qq ?_; (iterate 4 refine qX true (by decide) ?_); refine step (aW rfl rfl rfl) ?_; exact aQ.nil' (nm [] ⟨.d _, .eq (by first | (simp [hg1]; done) | (simp_all; done) | grind), trivial⟩ trivial)
   · refine gq (bf hg1) ?_; refine gq (bf hg1) ?_; refine qG _ (bf hg1) ?_; refine step (bx (xs := a0.Links) (e := (eA2 eapi_Port)) rfl) ?_; refine gq (bf hg1) ?_; refine step (bp rfl hg1 rfl) ?_; refine qq ?_; by_cases hg2 : decide ((a0.Links.length : Int) > 24) = true
     · (iterate 4 refine qX (decide ((a0.Links.length : Int) > 24)) (by rw [hg2]; decide) ?_); refine step (aW rfl hg2 rfl) ?_; exact aQ.nil' (nm [] ⟨.d _, .eq (by first | (simp [hg1, hg2]; done) | (simp_all; done) | grind), trivial⟩ trivial)
     · refine gq (bf hg2) ?_; refine gq (bf hg2) ?_; refine qG _ (bf hg2) ?_; refine step (bx (xs := a0.Hosts) (e := eapi_Port) rfl) ?_; refine gq (bf hg2) ?_; refine step (bp rfl hg2 rfl) ?_; exact aQ.nil' (nm [] ⟨.d _, .eq (by first | (simp [hg1, hg2]; done) | (simp_all; done) | grind), trivial⟩ trivial)
 by_cases hc3 : ((decide ((a0.Switches.length : Int) > 12)) || ((decide ((a0.Links.length : Int) > 24)) || (decide ((a0.Hosts.length : Int) > 24)))) = true
 · replace h := aU hc3 h; refine aT rfl hc3 ?_; refine aj ?_; refine qq ?_; refine nI ?_; cases sj h; refine aY ?_; exact bH (.inr rfl) (aP rfl rfl) (RV.d trivial)
 · replace h := aV hc3 h; refine aS rfl hc3 ?_; refine aX ?_; refine aM ⟨tab [(1, aN a0), (3, .mref 0)], ai [(0, .mp (eM (D.int .u16) D.bool ([] : List (Int × Bool))))], 1⟩ ?_ ?_
   · refine q2 ?_; exact nR [0]
   refine aA ?_; refine aj ?_; refine q2 ?_; refine step (bx (xs := a0.Switches) (e := (D.int .u16)) rfl) ?_; refine qq ?_; refine nT [(1, aN a0), (3, .mref 0), (30, cT a0.Switches), (31, vi (a0.Switches.length : Int)), (32, vi 0)] ?_; obtain ⟨z12, hl, h⟩ := ap h; refine bt ?_; refine eo (ce (a0.Switches.length : Int)) (fun (i5 : Int) (qq : (List (Int × Bool))) => ⟨tab [(1, aN a0), (3, .mref 0), (30, cT a0.Switches), (31, vi (a0.Switches.length : Int)), (32, vi i5)], ai [(0, .mp (eM (D.int .u16) D.bool qq))], 1⟩) 0 (fun (qq : (List (Int × Bool))) => ⟨tab [(1, aN a0), (3, .mref 0)], ai [(0, .mp (eM (D.int .u16) D.bool qq))], 1⟩) bv cf hl (by unfold bv; omega) ?_ ?_ ?_
   · rintro i5 m4 xr10 hinv8 hgo7 h; have hc9 := dy hgo7; refine aj ?_; refine qq ?_; refine nI ?_; refine ck 31 rfl fun hB6 => ?_; refine aA ?_; refine aT rfl hc9 ?_; refine aX ?_; refine aA ?_; refine bt ?_; obtain ⟨x11, hx11, h⟩ := ap h; refine aj ?_; refine step (bP (xs := a0.Switches) (e := (D.int .u16)) hx11 rfl rfl) ?_; refine q2 ?_; refine nI ?_; refine dP ⟨tab [(1, aN a0), (3, .mref 0), (30, cT a0.Switches), (31, vi (a0.Switches.length : Int)), (32, vi i5)], ai [(0, .mp (eM (D.int .u16) D.bool (en m4 x11 true)))], 1⟩ ?_ ?_
     · refine q2 ?_; refine step (wQ (ev := D.bool) (m := m4) (k := x11) (w := true) (wP .u16) rfl rfl rfl rfl) ?_; exact nR [0]
     cases sj h; refine bZ (And.intro rfl rfl) ?_; refine step (ca (cb hinv8 hgo7 hB6) rfl rfl) ?_; refine qq ?_; exact nR [0]
   · rintro i5 m4 hinv8 hgo7; have hc9 := dn hgo7; refine aj ?_; refine qq ?_; refine nI ?_; refine aA ?_; refine aS rfl hc9 ?_; refine b4 [(1, aN a0), (3, .mref 0)] ?_; refine b8 ?_; exact ⟨rfl, rfl⟩
   obtain ⟨r13, hr13, h⟩ := ap h; refine aM ⟨tab [(1, aN a0), (3, .mref 0), (6, .loc 1 0 r13.length)], ai (lI z12 r13), 2⟩ ?_ ?_
   · refine q2 ?_; refine md (v := .loc 1 0 r13.length) (σ' := (aw (ai [(0, .mp (eM (D.int .u16) D.bool z12))]) 1 (some (.lst false (some 2) (List.map eapi_Port r13))))) (n' := 2) (nQ [] (dp.frz (Ee hr13)) (show 0 ≤ 1 by decide) (by decide) (show ∀ i ∈ [], i < 1 by decide) (nZ (show 0 < 1 by decide) n5) (dC.c (.d _) dC.nil0) SN.nil0) (show 1 ≤ 2 by decide) ?_; refine qq ?_; exact nR [0, 1]
   refine aA ?_; refine aj ?_; refine q2 ?_; refine step (bx (xs := a0.Links) (e := (eA2 eapi_Port)) rfl) ?_; refine qq ?_; refine nT [(1, aN a0), (3, .mref 0), (6, .loc 1 0 r13.length), (43, dz a0.Links), (44, vi (a0.Links.length : Int)), (45, vi 0)] ?_; obtain ⟨z23, hl, h⟩ := ap h; refine bt ?_; refine eo (ce (a0.Links.length : Int)) (fun (i15 : Int) (qq : (List api_Port)) => ⟨tab [(1, aN a0), (3, .mref 0), (6, .loc 1 0 qq.length), (43, dz a0.Links), (44, vi (a0.Links.length : Int)), (45, vi i15)], ai (lI z12 qq), 2⟩) 2 (fun (qq : (List api_Port)) => ⟨tab [(1, aN a0), (3, .mref 0), (6, .loc 1 0 qq.length)], ai (lI z12 qq), 2⟩) bv cf hl (by unfold bv; omega) ?_ ?_ ?_
   · rintro i15 l14 xr20 hinv18 hgo17 h; have hc19 := dy hgo17; refine aj ?_; refine qq ?_; refine nI ?_; refine ck 44 rfl fun hB16 => ?_; refine aA ?_; refine aT rfl hc19 ?_; refine aX ?_; refine aA ?_; refine bt ?_; obtain ⟨x21, hx21, h⟩ := ap h; refine aM ⟨tab [(1, aN a0), (3, .mref 0), (6, .loc 1 0 l14.length), (8, .ptr 2 0 0), (43, dz a0.Links), (44, vi (a0.Links.length : Int)), (45, vi i15)], ai [(0, .mp (eM (D.int .u16) D.bool z12)), (1, .lst false (some 2) (List.map eapi_Port l14)), (2, .var [vh x21.a0.Sw, vh x21.a0.Pt, vh x21.a1.Sw, vh x21.a1.Pt])], 3⟩ ?_ ?_
     · refine step (bP (xs := a0.Links) (e := (eA2 eapi_Port)) hx21 rfl rfl) ?_; refine q3 ?_; exact nR [0, 1, 2]
     refine dV (s0 := ⟨tab [(1, aN a0), (3, .mref 0), (6, .loc 1 0 l14.length), (8, .d (.cptr (some 4) (eA2 eapi_Port x21) 0)), (43, dz a0.Links), (44, vi (a0.Links.length : Int)), (45, vi i15)], ai (lI z12 l14), 2⟩) (bW.trans (s2 := ⟨tab [(1, aN a0), (3, .mref 0), (6, .loc 1 0 l14.length), (8, .d (.cptr (some 4) (eA2 eapi_Port x21) 0)), (43, dz a0.Links), (44, vi (a0.Links.length : Int)), (45, vi i15)], ai (lI z12 l14), 2⟩) (Cp 8 (id := 2) (j := 0) (ds := [.int .u16 x21.a0.Sw, .int .u16 x21.a0.Pt, .int .u16 x21.a1.Sw, .int .u16 x21.a1.Pt]) rfl rfl) (nr [0, 1])) ?_; obtain ⟨l22, hl22, h⟩ := ap h; refine dP ⟨tab [(1, aN a0), (3, .mref 0), (6, .loc 1 0 l22.length), (43, dz a0.Links), (44, vi (a0.Links.length : Int)), (45, vi i15)], ai (lI z12 l22), 2⟩ ?_ ?_
     · refine q2 ?_; refine step (eR (xs := l14) (ys := [x21.a0, x21.a1]) (e := eapi_Port) hl22 rfl rfl rfl (fk (xs := [x21.a0, x21.a1]) (e := eapi_Port) rfl)) ?_; refine qq ?_; exact nR [0, 2]
     cases sj h; refine bZ (And.intro rfl rfl) ?_; refine step (ca (cb hinv18 hgo17 hB16) rfl rfl) ?_; refine qq ?_; exact nR [0, 1]
   · rintro i15 l14 hinv18 hgo17; have hc19 := dn hgo17; refine aj ?_; refine qq ?_; refine nI ?_; refine aA ?_; refine aS rfl hc19 ?_; refine b4 [(1, aN a0), (3, .mref 0), (6, .loc 1 0 l14.length)] ?_; refine b8 ?_; exact ⟨rfl, rfl⟩
   refine aM ⟨tab [(1, aN a0), (3, .mref 0), (6, .loc 1 0 z23.length), (9, .mref 2)], ai (pi z12 z23 ([] : List (api_Port × Bool))), 3⟩ ?_ ?_
   · refine q2 ?_; exact nR [0, 1, 2]
   refine aA ?_; refine aj ?_; refine q3 ?_; refine nT [(1, aN a0), (3, .mref 0), (6, .loc 1 0 z23.length), (9, .mref 2), (54, .loc 1 0 z23.length), (55, vi (z23.length : Int)), (56, vi 0)] ?_; obtain ⟨q38, hl, h⟩ := ap h; refine bt ?_; refine dj (ce (z23.length : Int)) (fun (i25 : Int) (qq : (List (api_Port × Bool))) => ⟨tab [(1, aN a0), (3, .mref 0), (6, .loc 1 0 z23.length), (9, .mref 2), (54, .loc 1 0 z23.length), (55, vi (z23.length : Int)), (56, vi i25)], ai (pi z12 z23 qq), 3⟩) 4 (fun (qq : (List (api_Port × Bool))) => ⟨tab [(1, aN a0), (3, .mref 0), (6, .loc 1 0 z23.length), (9, .mref 2)], ai (pi z12 z23 qq), 3⟩) bv cf (r := r) hl (by unfold bv; omega) ?_ ?_ ?_ ?_
   · rintro i25 m24 xr30 hinv28 hgo27 h; have hc29 := dy hgo27; refine aj ?_; refine qq ?_; refine nI ?_; refine ck 55 rfl fun hB26 => ?_; refine aA ?_; refine aT rfl hc29 ?_; refine aX ?_; refine aA ?_; refine bt ?_; obtain ⟨x31, hx31, h⟩ := ap h; refine aM ⟨tab [(1, aN a0), (3, .mref 0), (6, .loc 1 0 z23.length), (9, .mref 2), (11, .ptr 3 0 0), (54, .loc 1 0 z23.length), (55, vi (z23.length : Int)), (56, vi i25)], ai [(0, .mp (eM (D.int .u16) D.bool z12)), (1, .lst false (some 2) (List.map eapi_Port z23)), (2, .mp (eM eapi_Port D.bool m24)), (3, .var [vh x31.Sw, vh x31.Pt])], 4⟩ ?_ ?_
     · refine step (fY (xs := z23) (e := eapi_Port) hx31 rfl rfl rfl rfl) ?_; refine step (g8 (xs := z23) (e := eapi_Port) hx31 rfl rfl rfl) ?_; refine q2 ?_; exact nR [0, 1, 2, 3]
     refine aA ?_; refine aj ?_; refine q3 ?_; refine step (B3 (ev := D.bool) (m := z12) (k := x31.Sw) (wP .u16) false rfl rfl rfl rfl) ?_; refine qq ?_; refine nI ?_; by_cases hc32 : (!((mget z12 x31.Sw).getD false)) = true
     · replace h := aU hc32 h; refine aT rfl hc32 ?_; refine aM ⟨tab [(2, vi 12)], ai [], 0⟩ ?_ ?_
       · refine qq ?_; exact nR []
       obtain ⟨r33, kr33, hr⟩ := cF (o := some 12) (g := Br.ret) h; subst hr; have h := kr33; cases sj h; refine aY ?_; refine And.intro (fun hn => nomatch hn) ?_; intro hq; have hq := hq.symm; subst hq; exact bH (.inr rfl) (aP rfl rfl) (RV.d trivial)
     · replace h := aV hc32 h; refine aS rfl hc32 ?_; refine aX ?_; refine dP ⟨tab [(1, aN a0), (3, .mref 0), (6, .loc 1 0 z23.length), (9, .mref 2), (54, .loc 1 0 z23.length), (55, vi (z23.length : Int)), (56, vi i25)], ai (pi z12 z23 (en m24 x31 true)), 3⟩ ?_ ?_
       · refine qq ?_; refine step (dS (ds := [.int .u16 x31.Sw, .int .u16 x31.Pt]) rfl rfl (show 2 ≤ 2 by decide) rfl) ?_; refine step (wQ (ev := D.bool) (m := m24) (k := x31) (w := true) Ct rfl rfl rfl rfl) ?_; exact nR [0, 1, 2]
       cases sj h; refine bZ (And.intro rfl rfl) ?_; refine step (ca (cb hinv28 hgo27 hB26) rfl rfl) ?_; refine qq ?_; exact nR [0, 1, 2]
   · rintro i25 m24 hinv28 hgo27; have hc29 := dn hgo27; refine aj ?_; refine qq ?_; refine nI ?_; refine aA ?_; refine aS rfl hc29 ?_; refine b4 [(1, aN a0), (3, .mref 0), (6, .loc 1 0 z23.length), (9, .mref 2)] ?_; refine b8 ?_; exact ⟨rfl, rfl⟩
   · intro r' hq; subst hq; exact bM h
   rintro z33 rfl; refine aA ?_; refine bt ?_; obtain ⟨n34, hn34, h⟩ := ap h; refine aM ⟨tab [(6, .loc 0 0 z23.length), (9, .mref 1), (68, vb (decide (n34 < (a0.Switches.length : Int))))], ai [(0, .lst false (some 2) (List.map eapi_Port z23)), (1, .mp (eM eapi_Port D.bool z33))], 2⟩ ?_ ?_
   · refine qq ?_; refine step (v := vi n34) (jn (wR rfl rfl (pf hn34).1) (by rw [(pf hn34).2])) ?_; refine q2 ?_; refine step (bx (xs := a0.Switches) (e := (D.int .u16)) rfl) ?_; refine q2 ?_; exact nR [1, 2]
   by_cases hc35 : decide (n34 < (a0.Switches.length : Int)) = true
   · replace h := aU hc35 h; refine aT rfl hc35 ?_; refine aM ⟨tab [(2, vi 12)], ai [], 0⟩ ?_ ?_
     · refine qq ?_; exact nR []
     cases sj h; refine aY ?_; exact bH (.inr rfl) (aP rfl rfl) (RV.d trivial)
   · replace h := aV hc35 h; refine aS rfl hc35 ?_; obtain ⟨n36, hn36, h⟩ := ap h; refine aM ⟨tab [(75, vb (decide (n36 < (z23.length : Int))))], ai [], 0⟩ ?_ ?_
     · refine qq ?_; refine step (v := vi n36) (jn (wR rfl rfl (pf hn36).1) (by rw [(pf hn36).2])) ?_; refine q4 ?_; exact nR []
     by_cases hc37 : decide (n36 < (z23.length : Int)) = true
     · replace h := aU hc37 h; refine aT rfl hc37 ?_; refine aj ?_; refine qq ?_; refine nI ?_; cases sj h; refine aY ?_; exact bH (.inr rfl) (aP rfl rfl) (RV.d trivial)
     · replace h := aV hc37 h; refine aS rfl hc37 ?_; refine aX ?_; refine aj ?_; refine qq ?_; refine nI ?_; cases sj h; refine aY ?_; exact bH (.inr rfl) (aP rfl rfl) (RV.d trivial)
theorem wY {a0 : Int} {a1 : api_Topo} {r : Bool} (h : mw a0 a1 = some r) : PCall Try.prog 85 [.int .i64 a0, .cptr (some 3) (eapi_Topo a1) 0] (.bool r) := by
 refine PCall.inW Cy ?_; refine aj ?_; refine qq ?_; refine nI ?_; refine aM ⟨tab [(3, vb ((decide (a0 ≥ 0)) && (decide (a0 < (a1.Hosts.length : Int)))))], ai [], 0⟩ ?_ ?_
 · refine q3 ?_; by_cases hg1 : decide (a0 ≥ 0) = true
   · refine gq hg1 ?_; refine gq hg1 ?_; refine gq hg1 ?_; refine qG _ hg1 ?_; refine step (bx (xs := a1.Hosts) (e := eapi_Port) rfl) ?_; refine gq hg1 ?_; refine step (aW rfl hg1 rfl) ?_; refine qq ?_; exact aQ.nil' (nm [] ⟨.eq (by first | (simp [hg1]; done) | (simp_all; done) | grind), trivial⟩ trivial)
   · (iterate 5 refine gX hg1 ?_); refine step (bp rfl hg1 rfl) ?_; refine qq ?_; exact aQ.nil' (nm [] ⟨.eq (by first | (simp [hg1]; done) | (simp_all; done) | grind), trivial⟩ trivial)
 cases sj h; refine aY ?_; exact bH (.inr rfl) (aP rfl rfl) (RV.d trivial)
theorem Ef {a0 : (List Int)} {a1 : Int} {r : Int} (h : n8 a0 a1 = some r) : PCall Try.prog 114 [eL none (D.int .u16) a0, .int .u16 a1] (.int .i64 r) := by
 refine PCall.inW CA ?_; refine aj ?_; refine qq ?_; refine nI ?_; refine aA ?_; refine aj ?_; refine qq ?_; refine step (bx (xs := a0) (e := (D.int .u16)) rfl) ?_; refine qq ?_; refine nT [(0, cT a0), (1, vh a1), (7, vi (a0.length : Int)), (8, vi 0)] ?_; obtain ⟨q9, hl, h⟩ := ap h; refine bt ?_; refine dj (ce (a0.length : Int)) (fun (i1 : Int) (qq : Unit) => ⟨tab [(0, cT a0), (1, vh a1), (7, vi (a0.length : Int)), (8, vi i1)], ai [], 0⟩) 0 (fun (qq : Unit) => ⟨tab [], ai [], 0⟩) bv cf (r := r) hl (by unfold bv; omega) ?_ ?_ ?_ ?_
 · rintro i1 ⟨⟩ xr6 hinv4 hgo3 h; have hc5 := dy hgo3; refine aj ?_; refine qq ?_; refine nI ?_; refine ck 7 rfl fun hB2 => ?_; refine aA ?_; refine aT rfl hc5 ?_; refine aX ?_; refine aA ?_; refine bt ?_; refine aj ?_; refine q2 ?_; refine nI ?_; obtain ⟨x7, hx7, h⟩ := ap h; refine aj ?_; refine q3 ?_; refine step (bP (xs := a0) (e := (D.int .u16)) hx7 rfl rfl) ?_; refine q2 ?_; refine nI ?_; by_cases hc8 : (a1 == x7) = true
   · replace h := aU hc8 h; refine aT rfl hc8 ?_; refine aj ?_; refine q2 ?_; refine nI ?_; obtain ⟨r9, kr9, hr⟩ := cF (o := some i1) (g := Br.ret) h; subst hr; have h := kr9; cases sj h; refine aY ?_; refine And.intro (fun hn => nomatch hn) ?_; intro hq; have hq := hq.symm; subst hq; exact bH (.inr rfl) (aP rfl rfl) (RV.d trivial)
   · replace h := aV hc8 h; refine aS rfl hc8 ?_; refine aX ?_; cases sj h; refine bZ (And.intro rfl rfl) ?_; refine step (ca (cb hinv4 hgo3 hB2) rfl rfl) ?_; refine qq ?_; exact nR []
 · rintro i1 ⟨⟩ hinv4 hgo3; have hc5 := dn hgo3; refine aj ?_; refine qq ?_; refine nI ?_; refine aA ?_; refine aS rfl hc5 ?_; refine b4 [] ?_; refine b8 ?_; exact ⟨rfl, rfl⟩
 · intro r' hq; subst hq; exact bM h
 rintro ⟨⟩ rfl; refine aM ⟨tab [(4, vi (-1))], ai [], 0⟩ ?_ ?_
 · refine qq ?_; exact nR []
 cases sj h; refine aY ?_; exact bH (.inr rfl) (aP rfl rfl) (RV.d trivial)
theorem pk {a0 : api_Topo} {a1 : Int} {r : (Int × Bool)} (h : kh a0 a1 = some r) : PCall Try.prog 103 [eapi_Topo a0, .int .u16 a1] (.tup [.int .i64 r.1, .bool r.2]) := by
 refine PCall.inW CB ?_; refine aj ?_; refine q3 ?_; refine nI ?_; obtain ⟨r1, hr1, h⟩ := ap h; refine aj ?_; refine q3 ?_; refine bN (aO (aO bq.nil')) (Ef hr1) ?_; refine qq ?_; refine nO ?_; refine q4 ?_; refine q2 ?_; refine nI ?_; cases sj h; refine aY ?_; exact cq (.inr rfl) (aP rfl (aP rfl rfl)) (RV.d (RV.d trivial))
theorem Eg {a0 : (List Int)} {r : (List Int)} (h : my a0 = some r) : dp Try.prog 125 [.loc 0 0 a0.length] (ai (c6 a0)) 1 (.loc 0 0 r.length) (ai (c6 r)) 1 := by
 refine dp.inW CE ?_; refine aj ?_; refine qq ?_; refine nI ?_; refine aA ?_; refine aj ?_; refine q3 ?_; refine nI ?_; by_cases hc1 : decide ((a0.length : Int) < 2) = true
 · replace h := aU hc1 h; refine aT rfl hc1 ?_; refine aj ?_; refine q2 ?_; refine nI ?_; cases sj h; refine aY ?_; exact ⟨.inr rfl, _, rfl, rfl, fW.sub ⟨rfl, trivial⟩, rfl⟩
 · replace h := aV hc1 h; refine aS rfl hc1 ?_; refine aX ?_; refine aA ?_; refine aj ?_; refine qq ?_; refine nT [(0, .loc 0 0 a0.length), (3, vi 1)] ?_; obtain ⟨q34, hl, h⟩ := ap h; refine bt ?_; refine dj (ce (a0.length : Int)) (fun (i2 : Int) (qq : Unit) => ⟨tab [(0, .loc 0 0 a0.length), (3, vi i2)], ai (c6 a0), 1⟩) 0 (fun (qq : Unit) => ⟨tab [(0, .loc 0 0 a0.length)], ai (c6 a0), 1⟩) bv cf (r := r) hl (by unfold bv; omega) ?_ ?_ ?_ ?_
   · rintro i2 ⟨⟩ xr7 hinv5 hgo4 h; have hc6 := dy hgo4; refine aA ?_; refine aj ?_; refine q4 ?_; refine nI ?_; refine ck 12 rfl fun hB3 => ?_; refine aT rfl hc6 ?_; refine aX ?_; refine aA ?_; refine bt ?_; obtain ⟨x8, hx8, h⟩ := ap h; obtain ⟨x9, hx9, h⟩ := ap h; refine aj ?_; refine q2 ?_; refine step (fY (xs := a0) (e := (D.int .i64)) hx8 rfl rfl rfl rfl) ?_; refine step (g8 (xs := a0) (e := (D.int .i64)) hx8 rfl rfl rfl) ?_; refine q3 ?_; refine step (fY (xs := a0) (e := (D.int .i64)) hx9 rfl rfl rfl rfl) ?_; refine step (g8 (xs := a0) (e := (D.int .i64)) hx9 rfl rfl rfl) ?_; refine qq ?_; refine nI ?_; by_cases hc10 : (x8 == x9) = true
     · replace h := aU hc10 h; refine aT rfl hc10 ?_; obtain ⟨l11, hl11, h⟩ := ap h; refine aj ?_; refine q2 ?_; refine step (t8 (xs := a0) (e := (D.int .i64)) hl11 rfl rfl rfl ⟨_, rfl⟩ rfl) ?_; refine qq ?_; refine nI ?_; refine aA ?_; refine aj ?_; refine qq ?_; refine nT [(0, .loc 0 0 a0.length), (3, vi i2), (4, .loc 0 i2.toNat ((a0.length : Int).toNat - i2.toNat)), (5, vi 1)] ?_; obtain ⟨q33, hl, h⟩ := ap h; obtain ⟨z30, z31⟩ := q33; refine bt ?_; refine eo (ce (l11.length : Int)) (fun (i14 : Int) (qq : ((List Int) × Int)) => ⟨tab [(0, .loc 0 0 qq.1.length), (3, vi qq.2), (4, .loc 0 i2.toNat ((a0.length : Int).toNat - i2.toNat)), (5, vi i14)], ai (c6 qq.1), 1⟩) 2 (fun (qq : ((List Int) × Int)) => ⟨tab [(0, .loc 0 0 qq.1.length), (3, vi qq.2)], ai (c6 qq.1), 1⟩) bv cf hl (by unfold bv; omega) ?_ ?_ ?_
       · rintro i14 ⟨l12, i13⟩ xr19 hinv17 hgo16 h; have hc18 := dy hgo16; refine aA ?_; refine aj ?_; refine q2 ?_; refine step (ub (lo := i2) (hi := (a0.length : Int)) rfl hl11) ?_; refine qq ?_; refine nI ?_; refine ck 31 rfl fun hB15 => ?_; refine aT rfl hc18 ?_; refine aX ?_; obtain ⟨q29, hv, h⟩ := ap h; obtain ⟨l27, y28⟩ := q29; refine gg ⟨tab [(0, .loc 0 0 l27.length), (3, vi y28), (4, .loc 0 i2.toNat ((a0.length : Int).toNat - i2.toNat)), (5, vi i14)], ai (c6 l27), 1⟩ ?_ ?_
         · replace h := hv; refine bt ?_; obtain ⟨x20, hx20, h⟩ := ap h; obtain ⟨x21, hx21, h⟩ := ap h; obtain ⟨x22, hx22, h⟩ := ap h; obtain ⟨x23, hx23, h⟩ := ap h; refine aj ?_; refine q2 ?_; refine step (r6 (xs := l12) (e := (D.int .i64)) hx20 rfl rfl rfl) ?_; refine step (g8 (xs := l12) (e := (D.int .i64)) hx21 rfl rfl rfl) ?_; refine q3 ?_; refine step (r6 (xs := l12) (e := (D.int .i64)) hx22 rfl rfl rfl) ?_; refine step (g8 (xs := l12) (e := (D.int .i64)) hx23 rfl rfl rfl) ?_; refine qq ?_; refine nI ?_; by_cases hc24 : (x21 != x23) = true
           · replace h := aU hc24 h; refine aT rfl hc24 ?_; obtain ⟨x25, hx25, h⟩ := ap h; obtain ⟨l26, hl26, h⟩ := ap h; refine aM ⟨tab [(0, .loc 0 0 l26.length), (3, vi i13), (4, .loc 0 i2.toNat ((a0.length : Int).toNat - i2.toNat)), (5, vi i14)], ai (c6 l26), 1⟩ ?_ ?_
             · refine q4 ?_; refine step (r6 (xs := l12) (e := (D.int .i64)) hx20 rfl rfl rfl) ?_; refine step (g8 (xs := l12) (e := (D.int .i64)) hx21 rfl rfl rfl) ?_; refine step (fY (xs := l12) (e := (D.int .i64)) hx25 rfl rfl rfl rfl) ?_; refine step (ke (e := (D.int .i64)) (v' := x21) hl26 rfl rfl rfl rfl rfl) ?_; exact aQ.nil' (nm [0] ⟨.le (id := 0) (kc hl26).symm (show 0 < 1 by decide), .d _, .lc 0, .d _, trivial⟩ ⟨⟨show 0 < 1 by decide, _, rfl, .lst _ _ _⟩, trivial⟩)
             cases sj h; refine bZ (And.intro rfl rfl) ?_; refine q3 ?_; exact nR [0]
           · replace h := aV hc24 h; refine aS rfl hc24 ?_; cases sj h; refine b4 [(0, .loc 0 0 l12.length), (3, vi i13), (4, .loc 0 i2.toNat ((a0.length : Int).toNat - i2.toNat)), (5, vi i14)] ?_; refine aX ?_; exact ⟨rfl, rfl⟩
         cases sj h; refine bZ (And.intro rfl rfl) ?_; refine qq ?_; refine step (ca (cb hinv17 hgo16 hB15) rfl rfl) ?_; refine qq ?_; exact nR [0]
       · rintro i14 ⟨l12, i13⟩ hinv17 hgo16; have hc18 := dn hgo16; refine aA ?_; refine aj ?_; refine q2 ?_; refine step (ub (lo := i2) (hi := (a0.length : Int)) rfl hl11) ?_; refine qq ?_; refine nI ?_; refine aS rfl hc18 ?_; refine b4 [(0, .loc 0 0 l12.length), (3, vi i13)] ?_; refine b8 ?_; exact ⟨rfl, rfl⟩
       obtain ⟨l32, hl32, h⟩ := ap h; refine aM ⟨tab [(0, .loc 0 0 z30.length), (3, vi z31)], ai (c6 (z30.take z31.toNat)), 1⟩ ?_ ?_
       · refine q2 ?_; refine step (t8 (xs := z30) (e := (D.int .i64)) hl32 rfl rfl rfl ⟨_, rfl⟩ rfl) ?_; refine step (zG (xs := z30) (e := (D.int .i64)) rfl rfl (by have := qh hl32; omega)) ?_; exact nR [0]
       refine aj ?_; refine q2 ?_; refine step (zH (xs := z30) (e := (D.int .i64)) hl32 rfl rfl rfl rfl ⟨_, rfl⟩) ?_; refine qq ?_; refine nI ?_; obtain ⟨r33, kr33, hr⟩ := cF (o := some (z30.take z31.toNat)) (g := Br.ret) h; subst hr; have h := kr33; cases sj h; refine aY ?_; refine And.intro (fun hn => nomatch hn) ?_; intro hq; have hq := hq.symm; subst hq; exact ⟨.inr rfl, _, rfl, rfl, fW.sub ⟨rfl, trivial⟩, rfl⟩
     · replace h := aV hc10 h; refine aS rfl hc10 ?_; refine aX ?_; cases sj h; refine bZ (And.intro rfl rfl) ?_; refine qq ?_; refine step (ca (cb hinv5 hgo4 hB3) rfl rfl) ?_; refine qq ?_; exact nR [0]
   · rintro i2 ⟨⟩ hinv5 hgo4; have hc6 := dn hgo4; refine aA ?_; refine aj ?_; refine q4 ?_; refine nT [(0, .loc 0 0 a0.length), (3, vi i2), (13, vb (decide (i2 < (a0.length : Int))))] ?_; refine aS rfl hc6 ?_; refine b4 [(0, .loc 0 0 a0.length)] ?_; refine b8 ?_; exact ⟨rfl, rfl⟩
   · intro r' hq; subst hq; exact bM h
   rintro ⟨⟩ rfl; refine aM ⟨tab [(2, .loc 0 0 a0.length)], ai (c6 a0), 1⟩ ?_ ?_
   · refine q2 ?_; exact nR [0]
   cases sj h; refine aY ?_; exact ⟨.inr rfl, _, rfl, rfl, fW.sub ⟨rfl, trivial⟩, rfl⟩
def oG (g : List (List Int)) : aL := jK [(0, .var (cS 2 g))] 2 g
def lJ (g : List (List Int)) (cs : List V) : aL := jK [(0, .var (cS 2 g)), (1, .var cs)] 2 g
theorem jN {g : List (List Int)} {i : Nat} {l : List Int} (h : g[i]? = some l) : oG g (2 + i) = some (.lst true none (l.map (D.int .i64))) := nc h
theorem gy {g : List (List Int)} {T : Nat → V} {n : Nat} {l : List (Nat × V)} (hT : TN id (2 + g.length) T l) : bW 0 ⟨T, oG g, n⟩ ⟨tab l, oG g, 2 + g.length⟩ :=
 wS (by omega) hT (by intro p hp; simp at hp; subst hp; show 0 < 2; decide) ⟨⟨by show 0 < _; omega, _, rfl, .locs rfl rfl⟩, trivial⟩
theorem Eh {g : List (List Int)} {T : Nat → V} {n : Nat} {l : List (Nat × V)} {cs : List V} {σ : aL} (h0 : σ 0 = some (.var (cS 2 g))) (h1 : σ n = some (.var cs)) (hcs : BN (fun id => if id = 1 then n else id) (2 + g.length) (.var cs) (.var cs)) (hin : ∀ i l, g[i]? = some l → σ (2 + i) = some (.lst true none (l.map (D.int .i64))))
 (hn : n = 2 + g.length) (hT : TN (fun id => if id = 1 then n else id) (2 + g.length) T l) : bW 0 ⟨T, σ, n + 1⟩ ⟨tab l, lJ g cs, 2 + g.length⟩ := by
 refine bW.fam (fun id => if id = 1 then n else id) (fun id h => by omega) (fun x y hx hy e => ?_) (by omega) hT (by intro p hp; simp at hp; rcases hp with rfl | rfl; (show 0 < 2; decide); (show 1 < 2; decide)) ⟨⟨by show 0 < _; omega, _, h0, .locs ?_ rfl⟩, ⟨by show 1 < _; omega, _, h1, hcs⟩, trivial⟩ (fun i l h => ?_)
 · split at e <;> split at e <;> omega
 · unfold cS ik; congr 1; funext i l; have : ¬ (2 + i = 1) := by omega
   simp only [id, this, if_false]
 · have : ¬ (2 + i = 1) := by omega
   simp only [this, if_false]; exact hin i l h
theorem pm {T : Nat → V} {σ : aL} {n : Nat} {x : AX} {g : List (List Int)} {j : Nat} {l : List Int} {cs : List V} (hx : aF T x = .ptr 0 j 0) (h0 : σ 0 = some (.var cs)) (hg : cs[j]? = some (.loc (2 + j) 0 l.length)) : aI (.load none x) (aF T) σ n = some (.loc (2 + j) 0 l.length, σ, n) := by
 simp only [aI, hx, cW, h0, Nat.add_zero, fP, hg, Option.map_some]
theorem wZ {T : Nat → V} {σ : aL} {n : Nat} {x y : AX} {id : Nat} {la la2 : List Int} {b : Int} {m : Bool} (hx : aF T x = .loc id 0 la.length) (hy : aF T y = .d (.vec none [.int .i64 b])) (hid : σ id = some (.lst true none (la.map (D.int .i64)))) (hl : cY la [b] = some la2) :
 aI (.append none x y m) (aF T) σ n = some (.loc n 0 la2.length, aw (aw σ id none) n (some (.lst true none (la2.map (D.int .i64)))), n + 1) := by
 unfold cY at hl; split at hl
 · rename_i hle; cases hl; have e1 : fv σ none (.d (.vec none [D.int .i64 b])) = some [D.int .i64 b] := by simp [fv, fI, cI, eC]
   simp only [aI, eX, hx, hy, e1, hid]; rw [if_pos ⟨trivial, by simp, by simpa [fQ] using hle⟩]; simp
 · cases hl
theorem se {T : Nat → V} {σ : aL} {n : Nat} {a x : AX} {j id len : Nat} {cs : List V} (ha : aF T a = .ptr 0 j 0) (hx : aF T x = .loc id 0 len) (h0 : σ 0 = some (.var cs)) (hj : j < cs.length) : aI (.store none a x) (aF T) σ n = some (V.undef, aw σ 0 (some (.var (cs.set j (.loc id 0 len)))), n) := by
 have e1 : fg σ none (.ptr 0 j 0) (.loc id 0 len) = some (aw σ 0 (some (.var (cs.set j (.loc id 0 len))))) := by
  unfold fg
  simp only [h0]
  rw [if_pos ⟨rfl, rfl, by show j + 0 + 1 ≤ _; omega⟩]
  have : cs.take (j + 0) ++ (V.loc id 0 len).cells ++ cs.drop (j + 0 + am none) = cs.set j (.loc id 0 len) := Ch cs j _ hj
  rw [this]
 simp [aI, ha, hx, e1]
theorem nk {α : Type} {l : List α} {i : Int} {x : α} (h : be l i = some x) : 0 ≤ i ∧ l[i.toNat]? = some x ∧ i.toNat < l.length := by
 unfold be at h; split at h
 · exact ⟨by assumption, h, (List.getElem?_eq_some_iff.1 h).1⟩
 · cases h
theorem sf {α : Type} {l l2 : List α} {i : Int} {x : α} (h : di l i x = some l2) : l2 = l.set i.toNat x ∧ i.toNat < l.length := by
 unfold di at h; split at h
 · split at h
   · cases h; exact ⟨rfl, by assumption⟩
   · cases h
 · cases h
theorem w4 {g : List (List Int)} {T : Nat → V} {n m : Nat} {l : List (Nat × V)} {σ : aL} {j : Nat} {r : List Int} (hj : j < g.length) (hm : m = 2 + j ∨ 2 + g.length ≤ m) (h0 : σ 0 = some (.var ((cS 2 g).set j (.loc m 0 r.length)))) (h1 : σ m = some (.lst true none (r.map (D.int .i64)))) (hin : ∀ i l, i ≠ j → g[i]? = some l → σ (2 + i) = some (.lst true none (l.map (D.int .i64))))
 (hT : TN (fun id => if id = 2 + j then m else id) (2 + (g.set j r).length) T l) : bW 0 ⟨T, σ, n⟩ ⟨tab l, oG (g.set j r), 2 + (g.set j r).length⟩ := by
 have hlen : (g.set j r).length = g.length := by simp
 refine bW.fam (fun id => if id = 2 + j then m else id) (fun id h => by omega) (fun x y hx hy e => ?_) (by omega) hT (by intro p hp; simp at hp; subst hp; show 0 < 2; decide) ⟨⟨by show 0 < _; omega, _, by simpa [show ¬ (0 = 2 + j) by omega] using h0, .locs (Cg hj) rfl⟩, trivial⟩ (fun i l h => ?_)
 · rw [hlen] at hx hy; split at e <;> split at e <;> omega
 · rw [List.getElem?_set] at h; by_cases e : j = i
   · subst e; rw [if_pos rfl, if_pos hj] at h; cases h; simpa using h1
   · rw [if_neg e] at h; have : ¬ (2 + i = 2 + j) := by omega
     simp only [this, if_false]; exact hin i l (Ne.symm e) h
theorem Ei {g : List (List Int)} {T : Nat → V} {n m : Nat} {l : List (Nat × V)} {σ : aL} {j k : Nat} {r q : List Int} (hj : j < g.length) (hk : k < g.length) (hjk : j ≠ k) (hm : m = 2 + g.length) (h0 : σ 0 = some (.var (((cS 2 g).set j (.loc m 0 r.length)).set k (.loc (m + 1) 0 q.length)))) (h1 : σ m = some (.lst true none (r.map (D.int .i64)))) (h2 : σ (m + 1) = some (.lst true none (q.map (D.int .i64))))
 (hin : ∀ i l, i ≠ j → i ≠ k → g[i]? = some l → σ (2 + i) = some (.lst true none (l.map (D.int .i64)))) (hT : TN (fun id => if id = 2 + j then m else if id = 2 + k then m + 1 else id) (2 + ((g.set j r).set k q).length) T l) : bW 0 ⟨T, σ, n⟩ ⟨tab l, oG ((g.set j r).set k q), 2 + ((g.set j r).set k q).length⟩ := by
 have hlen : ((g.set j r).set k q).length = g.length := by simp
 refine bW.fam (fun id => if id = 2 + j then m else if id = 2 + k then m + 1 else id) (fun id h => by omega) (fun x y hx hy e => ?_) (by omega) hT (by intro p hp; simp at hp; subst hp; show 0 < 2; decide) ⟨⟨by show 0 < _; omega, _, by simpa [show ¬ (0 = 2 + j) by omega, show ¬ (0 = 2 + k) by omega] using h0, .locs ?_ rfl⟩, trivial⟩ (fun i l h => ?_)
 · rw [hlen] at hx hy; split at e <;> split at e <;> (try split at e) <;> (try split at e) <;> omega
 · apply List.ext_getElem?; intro i; rw [sa, List.getElem?_set, List.getElem?_set, List.getElem?_set, List.getElem?_set, List.length_set, List.length_set, jd]; by_cases e : k = i
   · subst e; have e1 : ¬ (k = j) := fun h => hjk h.symm; simp [hk, e1]
   · rw [if_neg e, if_neg e]; by_cases e2 : j = i
     · subst e2; simp [hj]
     · have e3 : ¬ (2 + i = 2 + j) := by omega
       have e4 : ¬ (2 + i = 2 + k) := by omega
       rw [if_neg e2, if_neg e2, jc, if_neg e3, if_neg e4]
 · rw [List.getElem?_set, List.getElem?_set, List.length_set] at h; by_cases e : k = i
   · subst e; rw [if_pos rfl, if_pos hk] at h; cases h; have e1 : ¬ (k = j) := fun h => hjk h.symm; simpa [e1] using h2
   · rw [if_neg e] at h; by_cases e2 : j = i
     · subst e2; rw [if_pos rfl, if_pos hj] at h; cases h; simpa using h1
     · rw [if_neg e2] at h; have e3 : ¬ (2 + i = 2 + j) := by omega
       have e4 : ¬ (2 + i = 2 + k) := by omega
       simp only [e3, e4, if_false]; exact hin i l (Ne.symm e2) (Ne.symm e) h
theorem VN.l0 {ρ : Nat → Nat} {n0 a b : Nat} (h : a = b) (h0 : ρ 0 = 0) (hn : 0 < n0) : VN ρ n0 (.loc 0 0 a) (.loc 0 0 b) := by
 subst h; have := VN.loc (ρ := ρ) 0 0 a hn; rwa [h0] at this
def Ej : bC :=
 (.seq (.ops false [
  ⟨some 21, .bin .lss (.t 20) (.t 19), none⟩])
  (.seq (.cond (.t 21)
   (.skip)
   (.exit 0))
  (.seq (.block 1 (.seq (.ops false [
   ⟨some 22, .mov (.t 20), none⟩,
   ⟨some 23, .iaddr (some 4) (.t 18) (.t 20), none⟩,
   ⟨some 24, .load (some 4) (.t 23), none⟩,
   ⟨some 7, .alloc [.int .u16 0, .int .u16 0, .int .u16 0, .int .u16 0], none⟩,
   ⟨some 6, .mov (.t 22), none⟩,
   ⟨none, .store (some 4) (.t 7) (.t 24), none⟩])
   (.seq (.ops false [
    ⟨some 26, .ldI (some 3) (.t 2), none⟩,
    ⟨some 27, .iaddrA 2 (some 2) (.t 7) (.c (.int .i64 0)), none⟩,
    ⟨some 28, .faddr 0 (.t 27), none⟩,
    ⟨some 29, .load none (.t 28), none⟩,
    ⟨some 30, .call false 103 [(.t 26), (.t 29)], none⟩,
    ⟨some 25, .mov (.t 30), none⟩,
    ⟨some 31, .extract (.t 25) 0, none⟩,
    ⟨some 32, .extract (.t 25) 1, none⟩,
    ⟨some 8, .mov (.t 31), none⟩,
    ⟨some 9, .mov (.t 32), none⟩])
   (.seq (.ops false [
    ⟨some 34, .ldI (some 3) (.t 2), none⟩,
    ⟨some 35, .iaddrA 2 (some 2) (.t 7) (.c (.int .i64 1)), none⟩,
    ⟨some 36, .faddr 0 (.t 35), none⟩,
    ⟨some 37, .load none (.t 36), none⟩,
    ⟨some 38, .call false 103 [(.t 34), (.t 37)], none⟩,
    ⟨some 33, .mov (.t 38), none⟩,
    ⟨some 39, .extract (.t 33) 0, none⟩,
    ⟨some 40, .extract (.t 33) 1, none⟩,
    ⟨some 10, .mov (.t 39), none⟩,
    ⟨some 11, .mov (.t 40), none⟩])
   (.seq (.seq (.ops false [
    ⟨some 41, .mov (.t 9), none⟩,
    ⟨some 42, .un .not (.t 41), none⟩,
    ⟨some 43, .mov (.t 42), none⟩,
    ⟨some 44, .mov (.t 11), some (43, false)⟩,
    ⟨some 45, .un .not (.t 44), some (43, false)⟩,
    ⟨some 46, .pick (.t 43) (.c (.bool true)) (.t 45), none⟩,
    ⟨some 47, .mov (.t 46), none⟩,
    ⟨some 48, .mov (.t 8), some (47, false)⟩,
    ⟨some 49, .mov (.t 10), some (47, false)⟩,
    ⟨some 50, .bin .eql (.t 48) (.t 49), some (47, false)⟩,
    ⟨some 51, .pick (.t 47) (.c (.bool true)) (.t 50), none⟩,
    ⟨some 52, .mov (.t 51), none⟩,
    ⟨some 53, .mov (.t 6), some (52, false)⟩,
    ⟨some 54, .mov (.t 1), some (52, false)⟩,
    ⟨some 55, .bin .eql (.t 53) (.t 54), some (52, false)⟩,
    ⟨some 56, .pick (.t 52) (.c (.bool true)) (.t 55), none⟩])
    (.cond (.t 56)
    (.exit 1)
    (.skip)))
   (.opsS [(10, 13), (10, 14)] [
    ⟨some 57, .mov (.t 5), none⟩,
    ⟨some 58, .mov (.t 8), none⟩,
    ⟨some 59, .mov (.t 5), none⟩,
    ⟨some 60, .mov (.t 10), none⟩,
    ⟨some 61, .mov (.t 5), none⟩,
    ⟨some 62, .mov (.t 8), none⟩,
    ⟨some 63, .iaddr none (.t 61) (.t 62), none⟩,
    ⟨some 64, .load none (.t 63), none⟩,
    ⟨some 65, .mov (.t 10), none⟩,
    ⟨some 66, .bsliceI none [(.t 65)], none⟩,
    ⟨some 67, .append none (.t 64) (.t 66) false, none⟩,
    ⟨some 68, .mov (.t 5), none⟩,
    ⟨some 69, .mov (.t 10), none⟩,
    ⟨some 70, .iaddr none (.t 68) (.t 69), none⟩,
    ⟨some 71, .load none (.t 70), none⟩,
    ⟨some 72, .mov (.t 8), none⟩,
    ⟨some 73, .bsliceI none [(.t 72)], none⟩,
    ⟨some 74, .append none (.t 71) (.t 73) false, none⟩,
    ⟨some 75, .iaddr none (.t 57) (.t 58), none⟩,
    ⟨none, .store none (.t 75) (.t 67), none⟩,
    ⟨some 76, .iaddr none (.t 59) (.t 60), none⟩,
    ⟨none, .store none (.t 76) (.t 74), none⟩]))))))
  (.ops false [
   ⟨some 77, .bin .add (.t 20) (.c (.int .i64 1)), none⟩,
   ⟨some 20, .mov (.t 77), none⟩]))))
def Ek : bC :=
 (.seq (.ops false [
  ⟨some 81, .bin .lss (.t 80) (.t 79), none⟩])
  (.seq (.cond (.t 81)
   (.skip)
   (.exit 2))
  (.seq (.block 3 (.seq (.ops false [
   ⟨some 82, .mov (.t 80), none⟩,
   ⟨some 12, .mov (.t 82), none⟩])
   (.seq (.ops false [
    ⟨some 83, .mov (.t 5), none⟩,
    ⟨some 84, .mov (.t 12), none⟩,
    ⟨some 85, .iaddr none (.t 83) (.t 84), none⟩,
    ⟨some 86, .load none (.t 85), none⟩,
    ⟨some 87, .call true 124 [(.t 86)], none⟩])
   (.ops false [
    ⟨some 88, .mov (.t 5), none⟩,
    ⟨some 89, .mov (.t 12), none⟩,
    ⟨some 90, .mov (.t 5), none⟩,
    ⟨some 91, .mov (.t 12), none⟩,
    ⟨some 92, .iaddr none (.t 90) (.t 91), none⟩,
    ⟨some 93, .load none (.t 92), none⟩,
    ⟨some 94, .call true 125 [(.t 93)], none⟩,
    ⟨some 95, .iaddr none (.t 88) (.t 89), none⟩,
    ⟨none, .store none (.t 95) (.t 94), none⟩]))))
  (.ops false [
   ⟨some 96, .bin .add (.t 80) (.c (.int .i64 1)), none⟩,
   ⟨some 80, .mov (.t 96), none⟩]))))
def El : bY := .mk 98
 (.seq (.ops false [
  ⟨some 2, .box (some 3) (.t 0) true, none⟩,
  ⟨some 4, .mov (.c (.vec none [])), none⟩])
  (.seq (.ops false [
   ⟨some 13, .faddr 0 (.t 2), none⟩,
   ⟨some 14, .ldI none (.t 13), none⟩,
   ⟨some 15, .len (.t 14), none⟩,
   ⟨some 16, .mkslV .nils (.t 15) (.t 15), none⟩,
   ⟨some 5, .mov (.t 16), none⟩])
  (.seq (.seq (.ops false [
   ⟨some 17, .faddr 1 (.t 2), none⟩,
   ⟨some 18, .ldI none (.t 17), none⟩,
   ⟨some 19, .len (.t 18), none⟩,
   ⟨some 20, .mov (.c (.int .i64 0)), none⟩])
   (.block 0 (.loop Ej)))
  (.seq (.seq (.ops false [
   ⟨some 78, .mov (.t 5), none⟩,
   ⟨some 79, .len (.t 78), none⟩,
   ⟨some 80, .mov (.c (.int .i64 0)), none⟩])
   (.block 2 (.loop Ek)))
  (.seq (.ops false [
   ⟨some 97, .mov (.t 5), none⟩,
   ⟨some 4, .mov (.t 97), none⟩])
  (.ret))))))
 [.t 4]
theorem Em {a0 : api_Topo} {a1 : Int} {r : (List (List Int))} (h : ob a0 a1 = some r) : PCall Try.prog 115 [eapi_Topo a0, .int .i64 a1] (eL none (eL none (D.int .i64)) r) := by
 refine PCall.inW El ?_; refine aj ?_; refine q2 ?_; refine nI ?_; obtain ⟨g0, hg0, h⟩ := ap h
 have hg0' : 0 ≤ (a0.Switches.length : Int) ∧ (a0.Switches.length : Int) ≤ 4294967296 ∧ g0 = List.replicate a0.Switches.length [] := by
  unfold fj at hg0
  split at hg0
  ·
   rename_i hc; cases hg0; exact ⟨hc.1, hc.2, by simp⟩
  ·
   cases hg0
 obtain ⟨hn0, hn1, hg0e⟩ := hg0'; have hgl : g0.length = a0.Switches.length := by rw [hg0e]; simp
 refine aM ⟨tab [(1, vi a1), (2, aN a0), (5, .loc 0 0 g0.length)], oG g0, 2 + g0.length⟩ ?_ ?_
 · refine q2 ?_; refine step (bx (xs := a0.Switches) (e := (D.int .u16)) rfl) ?_; refine step (v := .loc 0 0 a0.Switches.length) (σ' := aw (ai []) 0 (some (.var (List.replicate a0.Switches.length (.d .nils))))) (n' := 1) (B6 rfl rfl ⟨hn0, hn1⟩ (by simp) (by simp)) ?_; refine qq ?_; refine aQ.nil' (bW.trans (Ce 2 (by show 1 ≤ 2; decide) (o := 0) (k := a0.Switches.length) (by simp [aw]) (by show 0 < 1; decide)) ?_); refine bW.fam id (fun _ _ => rfl) (fun x y _ _ e => e) (by omega) ⟨.d _, .d _, .le (id := 0) hgl.symm (by show 0 < _; omega), trivial⟩ (by intro p hp; simp at hp; subst hp; show 0 < 2; decide) ⟨⟨by show 0 < _; omega, _, rfl, .locs (by rw [hg0e]; rfl) rfl⟩, trivial⟩ (fun i l hl => ?_); have hi : i < a0.Switches.length := by have := (List.getElem?_eq_some_iff.1 hl).1; omega
   rw [hg0e, List.getElem?_replicate, if_pos hi] at hl; cases hl; have e1 : ¬ (2 + i = 0) := by omega
   have e2 : 2 ≤ 2 + i ∧ 2 + i < 2 + a0.Switches.length := by omega
   simp only [id, e1, e2, if_true, if_false, and_self, List.map_nil]
 clear hg0 hg0e hgl; refine aA ?_; refine aM ⟨tab [(1, vi a1), (2, aN a0), (5, .loc 0 0 g0.length), (18, dz a0.Links), (19, vi (a0.Links.length : Int)), (20, vi 0)], oG g0, 2 + g0.length⟩ ?_ ?_
 · refine q2 ?_; refine step (bx (xs := a0.Links) (e := (eA2 eapi_Port)) rfl) ?_; refine qq ?_; exact aQ.nil' (gy ⟨.d _, .d _, .loc 0 _ _ (by omega), .d _, .d _, .d _, trivial⟩)
 obtain ⟨z1, hl, h⟩ := ap h; refine bt ?_; refine eo (ce (a0.Links.length : Int)) (fun (i2 : Int) (g : List (List Int)) => ⟨tab [(1, vi a1), (2, aN a0), (5, .loc 0 0 g.length), (18, dz a0.Links), (19, vi (a0.Links.length : Int)), (20, vi i2)], oG g, 2 + g.length⟩) 0 (fun (g : List (List Int)) => ⟨tab [(5, .loc 0 0 g.length)], oG g, 2 + g.length⟩) bv cf hl (by unfold bv; omega) ?_ ?_ ?_
 · rintro i2 g g9 hinv hgo h; have hc : decide (i2 < (a0.Links.length : Int)) = true := decide_eq_true hgo; refine aM ⟨tab [(1, vi a1), (2, aN a0), (5, .loc 0 0 g.length), (18, dz a0.Links), (19, vi (a0.Links.length : Int)), (20, vi i2), (21, vb (decide (i2 < (a0.Links.length : Int))))], oG g, 2 + g.length⟩ ?_ ?_
   · refine qq ?_; exact aQ.nil' (gy ⟨.d _, .d _, .loc 0 _ _ (by omega), .d _, .d _, .d _, .d _, trivial⟩)
   refine ck 19 rfl fun hB3 => ?_; refine aA ?_; refine aT rfl hc ?_; refine aX ?_; refine gg ⟨tab [(1, vi a1), (2, aN a0), (5, .loc 0 0 g9.length), (18, dz a0.Links), (19, vi (a0.Links.length : Int)), (20, vi i2)], oG g9, 2 + g9.length⟩ ?_ ?_
   · refine bt ?_; obtain ⟨x8, hx8, h⟩ := ap h; refine aM ⟨tab [(1, vi a1), (2, aN a0), (5, .loc 0 0 g.length), (6, vi i2), (7, .ptr 1 0 0), (18, dz a0.Links), (19, vi (a0.Links.length : Int)), (20, vi i2)], lJ g [vh x8.a0.Sw, vh x8.a0.Pt, vh x8.a1.Sw, vh x8.a1.Pt], 2 + g.length⟩ ?_ ?_
     · refine qq ?_; refine step (bP (xs := a0.Links) (e := (eA2 eapi_Port)) hx8 rfl rfl) ?_; refine qq ?_; refine step (v := .ptr (2 + g.length) 0 0) (σ' := (aw (oG g) (2 + g.length) (some (.var [vh 0, vh 0, vh 0, vh 0])))) (n' := 2 + g.length + 1) rfl ?_; refine qq ?_; refine step (v := V.undef) (σ' := aw (aw (oG g) (2 + g.length) (some (.var [vh 0, vh 0, vh 0, vh 0]))) (2 + g.length) (some (.var [vh x8.a0.Sw, vh x8.a0.Pt, vh x8.a1.Sw, vh x8.a1.Pt]))) (n' := 2 + g.length + 1) ?_ ?_
       · have e1 : fg (aw (oG g) (2 + g.length) (some (.var [vh 0, vh 0, vh 0, vh 0]))) (some 4) (.ptr (2 + g.length) 0 0) (.d (eA2 eapi_Port x8)) = some (aw (aw (oG g) (2 + g.length) (some (.var [vh 0, vh 0, vh 0, vh 0]))) (2 + g.length) (some (.var [vh x8.a0.Sw, vh x8.a0.Pt, vh x8.a1.Sw, vh x8.a1.Pt]))) := by
          unfold fg
          simp only [bz]
          rfl
         show (fg _ (some 4) (.ptr (2 + g.length) 0 0) (.d (eA2 eapi_Port x8))).map _ = _; rw [e1]; rfl
       have f0 : ∀ id, id ≠ 2 + g.length → aw (aw (oG g) (2 + g.length) (some (.var [vh 0, vh 0, vh 0, vh 0]))) (2 + g.length) (some (.var [vh x8.a0.Sw, vh x8.a0.Pt, vh x8.a1.Sw, vh x8.a1.Pt])) id = oG g id := fun id hid => by rw [bg _ _ hid, bg _ _ hid]
       exact aQ.nil' (Eh ((f0 0 (by omega)).trans rfl) (bz _ _ _) (.vars ⟨.d _, .d _, .d _, .d _, trivial⟩) (fun i l hl => (f0 _ (by have := (List.getElem?_eq_some_iff.1 hl).1; omega)).trans (jN hl)) rfl ⟨.d _, .d _, .loc 0 _ _ (by omega), .d _, .ptr 1 _ _ (by omega), .d _, .d _, .d _, trivial⟩)
     obtain ⟨r1, hr1, h⟩ := ap h
     have keep1 : ∀ {T : Nat → V} {n : Nat} {l : List (Nat × V)} {cs : List V}, BN id (2 + g.length) (.var cs) (.var cs) → TN id (2 + g.length) T l → bW 0 ⟨T, lJ g cs, n⟩ ⟨tab l, lJ g cs, 2 + g.length⟩ := fun hcs hT =>
      wS (by omega) hT (by intro p hp; simp at hp; rcases hp with rfl | rfl; (show 0 < 2; decide); (show 1 < 2; decide)) ⟨⟨by show 0 < _; omega, _, rfl, .locs rfl rfl⟩, ⟨by show 1 < _; omega, _, rfl, hcs⟩, trivial⟩
     have drop1 : ∀ {T : Nat → V} {n : Nat} {l : List (Nat × V)} {cs : List V}, TN id (2 + g.length) T l → bW 0 ⟨T, lJ g cs, n⟩ ⟨tab l, oG g, 2 + g.length⟩ := fun hT =>
      bW.fam id (fun _ _ => rfl) (fun x y _ _ e => e) (by omega) hT (by intro p hp; simp at hp; subst hp; show 0 < 2; decide) ⟨⟨by show 0 < _; omega, _, rfl, .locs rfl rfl⟩, trivial⟩ (fun i l hl => nc hl)
     refine aM ⟨tab [(1, vi a1), (2, aN a0), (5, .loc 0 0 g.length), (6, vi i2), (7, .ptr 1 0 0), (8, vi r1.1), (9, vb r1.2), (18, dz a0.Links), (19, vi (a0.Links.length : Int)), (20, vi i2)], lJ g [vh x8.a0.Sw, vh x8.a0.Pt, vh x8.a1.Sw, vh x8.a1.Pt], 2 + g.length⟩ ?_ ?_
     · refine q4 ?_; refine bN (aO (aO bq.nil')) (pk hr1) ?_; refine q4 ?_; refine qq ?_; exact aQ.nil' (keep1 (.vars ⟨.d _, .d _, .d _, .d _, trivial⟩) ⟨.d _, .d _, .loc 0 _ _ (by omega), .d _, .ptr 1 _ _ (by omega), .d _, .d _, .d _, .d _, .d _, trivial⟩)
     obtain ⟨r2, hr2, h⟩ := ap h; refine aM ⟨tab [(1, vi a1), (2, aN a0), (5, .loc 0 0 g.length), (6, vi i2), (8, vi r1.1), (9, vb r1.2), (10, vi r2.1), (11, vb r2.2), (18, dz a0.Links), (19, vi (a0.Links.length : Int)), (20, vi i2)], oG g, 2 + g.length⟩ ?_ ?_
     · refine q4 ?_; refine bN (aO (aO bq.nil')) (pk hr2) ?_; refine q4 ?_; refine qq ?_; exact aQ.nil' (drop1 ⟨.d _, .d _, .loc 0 _ _ (by omega), .d _, .d _, .d _, .d _, .d _, .d _, .d _, .d _, trivial⟩)
     clear keep1 drop1; refine aA ?_; refine aA ?_; have keepT : ∀ {T : Nat → V} {n : Nat}, (hT : TN id (2 + g.length) T [(1, vi a1), (2, aN a0), (5, .loc 0 0 g.length), (8, vi r1.1), (10, vi r2.1), (18, dz a0.Links), (19, vi (a0.Links.length : Int)), (20, vi i2), (56, vb ((!r1.2) || ((!r2.2) || ((r1.1 == r2.1) || (i2 == a1)))))]) → aQ Try.prog [] ⟨T, oG g, n⟩ (fun s' => bW 0 s' ⟨tab [(1, vi a1), (2, aN a0), (5, .loc 0 0 g.length), (8, vi r1.1), (10, vi r2.1), (18, dz a0.Links), (19, vi (a0.Links.length : Int)), (20, vi i2), (56, vb ((!r1.2) || ((!r2.2) || ((r1.1 == r2.1) || (i2 == a1)))))], oG g, 2 + g.length⟩) := fun hT => aQ.nil' (gy hT); refine dP ⟨tab [(1, vi a1), (2, aN a0), (5, .loc 0 0 g.length), (8, vi r1.1), (10, vi r2.1), (18, dz a0.Links), (19, vi (a0.Links.length : Int)), (20, vi i2), (56, vb ((!r1.2) || ((!r2.2) || ((r1.1 == r2.1) || (i2 == a1)))))], oG g, 2 + g.length⟩ ?_ ?_
     · refine q3 ?_; by_cases e1 : (!r1.2) = true
       · (iterate 2 refine qX (!r1.2) (by rw [e1]; decide) ?_); refine step (aW rfl e1 rfl) ?_; refine qq ?_; (iterate 3 refine qX true (by decide) ?_); refine step (aW rfl rfl rfl) ?_; refine qq ?_; (iterate 3 refine qX true (by decide) ?_); refine step (aW rfl rfl rfl) ?_; exact keepT ⟨.d _, .d _, .loc 0 _ _ (by omega), .d _, .d _, .d _, .d _, .d _, .eq (by rw [e1]; rfl), trivial⟩
       · refine qG _ (bf e1) ?_; refine qq ?_; refine qG _ (bf e1) ?_; refine qq ?_; refine step (bp rfl e1 rfl) ?_; refine qq ?_; have e1' : (!r1.2) = false := Bool.eq_false_iff.2 e1; by_cases e2 : (!r2.2) = true
         · (iterate 3 refine qX (!r2.2) (by rw [e2]; decide) ?_); refine step (aW rfl e2 rfl) ?_; refine qq ?_; (iterate 3 refine qX true (by decide) ?_); refine step (aW rfl rfl rfl) ?_; exact keepT ⟨.d _, .d _, .loc 0 _ _ (by omega), .d _, .d _, .d _, .d _, .d _, .eq (by rw [e1', e2]; rfl), trivial⟩
         · have e2' : (!r2.2) = false := Bool.eq_false_iff.2 e2; refine qG _ e2' ?_; refine qq ?_; refine qG _ e2' ?_; refine qq ?_; refine qG _ e2' ?_; refine qq ?_; refine step (bp rfl e2 rfl) ?_; refine qq ?_; by_cases e3 : (r1.1 == r2.1) = true
           · (iterate 3 refine qX (r1.1 == r2.1) (by rw [e3]; decide) ?_); refine step (aW rfl e3 rfl) ?_; exact keepT ⟨.d _, .d _, .loc 0 _ _ (by omega), .d _, .d _, .d _, .d _, .d _, .eq (by rw [e1', e2', e3]; rfl), trivial⟩
           · have e3' : (r1.1 == r2.1) = false := Bool.eq_false_iff.2 e3; refine qG _ e3' ?_; refine qq ?_; refine qG _ e3' ?_; refine qq ?_; refine qG _ e3' ?_; refine qq ?_; refine step (bp rfl e3 rfl) ?_; exact keepT ⟨.d _, .d _, .loc 0 _ _ (by omega), .d _, .d _, .d _, .d _, .d _, .eq (by rw [e1', e2', e3']; rfl), trivial⟩
     clear keepT; by_cases hcc : ((!r1.2) || ((!r2.2) || ((r1.1 == r2.1) || (i2 == a1)))) = true
     · replace h := aU hcc h; cases h; refine aT rfl hcc ?_; refine dV (s0 := ⟨tab [(1, vi a1), (2, aN a0), (5, .loc 0 0 g.length), (18, dz a0.Links), (19, vi (a0.Links.length : Int)), (20, vi i2)], oG g, 2 + g.length⟩) (gy ⟨.d _, .d _, .loc 0 _ _ (by omega), .d _, .d _, .d _, trivial⟩) ?_; refine b8 ?_; exact ⟨rfl, rfl⟩
     · replace h := aV hcc h
       have hne : r1.1 ≠ r2.1 := by
        intro e
        apply hcc
        have : (r1.1 == r2.1) = true := by simp [e]
        rw [this]; simp
       refine aS rfl hcc ?_; refine aX ?_; obtain ⟨la, hla, h⟩ := ap h; obtain ⟨la2, hla2, h⟩ := ap h; obtain ⟨lb, hlb, h⟩ := ap h; obtain ⟨lb2, hlb2, h⟩ := ap h; obtain ⟨g2, hg2, h⟩ := ap h; obtain ⟨p1, p2, p3⟩ := nk hla; obtain ⟨q1', q2', q3'⟩ := nk hlb; obtain ⟨hg2e, _⟩ := sf hg2; obtain ⟨hg9e, _⟩ := sf h; subst hg2e; have hjk : r1.1.toNat ≠ r2.1.toNat := by omega
       generalize hn : 2 + g.length = n; have hna : 2 + r1.1.toNat ≠ n := by omega
       have hnb : 2 + r2.1.toNat ≠ n := by omega
       have hab : 2 + r2.1.toNat ≠ 2 + r1.1.toNat := by omega
       obtain ⟨σ1, hσ1⟩ : ∃ σ1, σ1 = aw (aw (oG g) (2 + r1.1.toNat) none) n (some (.lst true none (la2.map (D.int .i64)))) := ⟨_, rfl⟩; obtain ⟨σ2, hσ2⟩ : ∃ σ2, σ2 = aw (aw σ1 (2 + r2.1.toNat) none) (n + 1) (some (.lst true none (lb2.map (D.int .i64)))) := ⟨_, rfl⟩; have z0 : oG g 0 = some (.var (cS 2 g)) := rfl; have z1 : σ1 0 = some (.var (cS 2 g)) := by rw [hσ1, bg _ _ (by omega), bg _ _ (by omega)]; rfl
       have z2 : σ2 0 = some (.var (cS 2 g)) := by rw [hσ2, bg _ _ (by omega), bg _ _ (by omega)]; exact z1
       have zb : σ1 (2 + r2.1.toNat) = some (.lst true none (lb.map (D.int .i64))) := by rw [hσ1, bg _ _ hnb, bg _ _ hab]; exact jN q2'
       obtain ⟨σ3, hσ3⟩ : ∃ σ3, σ3 = aw σ2 0 (some (.var ((cS 2 g).set r1.1.toNat (.loc n 0 la2.length)))) := ⟨_, rfl⟩; obtain ⟨σ4, hσ4⟩ : ∃ σ4, σ4 = aw σ3 0 (some (.var (((cS 2 g).set r1.1.toNat (.loc n 0 la2.length)).set r2.1.toNat (.loc (n + 1) 0 lb2.length)))) := ⟨_, rfl⟩; refine m8 ⟨tab [(1, vi a1), (2, aN a0), (5, .loc 0 0 g9.length), (18, dz a0.Links), (19, vi (a0.Links.length : Int)), (20, vi i2)], oG g9, 2 + g9.length⟩ ?_ (And.intro rfl rfl); (iterate 6 refine bS (v := _) [] [] rfl rfl rfl ?_); refine bS (v := .ptr 0 r1.1.toNat 0) [0] [] (kE (m := g.length) rfl z0 rfl ⟨p1, by omega⟩ rfl) rfl rfl ?_; refine bS (v := .loc (2 + r1.1.toNat) 0 la.length) [0] [] (pm (g := g) rfl z0 (by rw [jc, p2]; rfl)) rfl rfl ?_; (iterate 2 refine bS (v := _) [] [] rfl rfl rfl ?_); refine bS (v := .loc n 0 la2.length) (σ' := σ1) (n' := n + 1) [2 + r1.1.toNat] [2 + r1.1.toNat] (by rw [hσ1]; exact wZ rfl rfl (jN p2) hla2) rfl rfl ?_; (iterate 2 refine bS (v := _) [] [] rfl rfl rfl ?_); refine bS (v := .ptr 0 r2.1.toNat 0) [0] [] (kE (m := g.length) rfl z1 rfl ⟨q1', by omega⟩ rfl) rfl rfl ?_; refine bS (v := .loc (2 + r2.1.toNat) 0 lb.length) [0] [] (pm (g := g) rfl z1 (by rw [jc, q2']; rfl)) rfl rfl ?_; (iterate 2 refine bS (v := _) [] [] rfl rfl rfl ?_); refine bS (v := .loc (n + 1) 0 lb2.length) (σ' := σ2) (n' := n + 1 + 1) [2 + r2.1.toNat] [2 + r2.1.toNat] (by rw [hσ2]; exact wZ rfl rfl zb hlb2) rfl rfl ?_; refine bS (v := .ptr 0 r1.1.toNat 0) [0] [] (kE (m := g.length) rfl z2 rfl ⟨p1, by omega⟩ rfl) rfl rfl ?_; refine bS (v := V.undef) (σ' := σ3) (n' := n + 1 + 1) [0] [0] (by rw [hσ3]; exact se rfl rfl z2 (by rw [jd]; exact p3)) rfl rfl ?_; have z3 : σ3 0 = some (.var ((cS 2 g).set r1.1.toNat (.loc n 0 la2.length))) := by rw [hσ3, bz]
       refine bS (v := .ptr 0 r2.1.toNat 0) [0] [] (kE (m := g.length) rfl z3 rfl ⟨q1', by omega⟩ rfl) rfl rfl ?_; refine bS (v := V.undef) (σ' := σ4) (n' := n + 1 + 1) [0] [0] (by rw [hσ4]; exact se rfl rfl z3 (by rw [List.length_set, jd]; exact q3')) rfl rfl ?_; refine cB.nil' ⟨?_, ?_⟩
       · have b1 : ¬ (2 + r1.1.toNat = 0) := by omega
         have b2 : ¬ (n = 0) := by omega
         have b3 : ¬ (n ≤ 0) := by omega
         have b5 : 2 + r1.1.toNat < n + 1 := by omega
         simp [pd, rX, b1, b2, b3, b5]
       · subst hg9e; have hlen : ((g.set r1.1.toNat la2).set r2.1.toNat lb2).length = g.length := by simp
         refine Ei p3 q3' hjk hn.symm (by rw [hσ4, bz]) ?_ ?_ (fun i l hi1 hi2 hl => ?_) ⟨.d _, .d _, .l0 hlen.symm (by show ite _ _ _ = 0; rw [if_neg (by omega), if_neg (by omega)]) (by omega), .d _, .d _, .d _, trivial⟩
         · rw [hσ4, hσ3, bg _ _ (by omega), bg _ _ (by omega), hσ2, bg _ _ (by omega), bg _ _ (Ne.symm hnb), hσ1, bz]
         · rw [hσ4, hσ3, bg _ _ (by omega), bg _ _ (by omega), hσ2, bz]
         · have hil := (List.getElem?_eq_some_iff.1 hl).1; rw [hσ4, hσ3, bg _ _ (by omega), bg _ _ (by omega), hσ2, bg _ _ (by omega), bg _ _ (by omega), hσ1, bg _ _ (by omega), bg _ _ (by omega)]; exact jN hl
   · refine dP ⟨tab [(1, vi a1), (2, aN a0), (5, .loc 0 0 g9.length), (18, dz a0.Links), (19, vi (a0.Links.length : Int)), (20, vi (i2 + 1))], oG g9, 2 + g9.length⟩ ?_ ?_
     · refine step (ca (cb hinv hgo hB3) rfl rfl) ?_; refine qq ?_; exact aQ.nil' (gy ⟨.d _, .d _, .loc 0 _ _ (by omega), .d _, .d _, .d _, trivial⟩)
     exact ⟨rfl, rfl⟩
 · rintro i2 g hinv hgo; have hc : ¬ (decide (i2 < (a0.Links.length : Int)) = true) := fun hq => hgo (of_decide_eq_true hq); refine aM ⟨tab [(5, .loc 0 0 g.length), (21, vb (decide (i2 < (a0.Links.length : Int))))], oG g, 2 + g.length⟩ ?_ ?_
   · refine qq ?_; exact aQ.nil' (gy ⟨.loc 0 _ _ (by omega), .d _, trivial⟩)
   refine aA ?_; refine aS rfl hc ?_; refine dV (s0 := ⟨tab [(5, .loc 0 0 g.length)], oG g, 2 + g.length⟩) (gy ⟨.loc 0 _ _ (by omega), trivial⟩) ?_; refine b8 ?_; exact ⟨rfl, rfl⟩
 refine aA ?_; refine aM ⟨tab [(5, .loc 0 0 z1.length), (79, vi (z1.length : Int)), (80, vi 0)], oG z1, 2 + z1.length⟩ ?_ ?_
 · refine q3 ?_; exact aQ.nil' (gy ⟨.loc 0 _ _ (by omega), .d _, .d _, trivial⟩)
 obtain ⟨z2, hl2, h⟩ := ap h; have hh := bM h; subst hh; refine bt ?_; refine eo (ce (z1.length : Int)) (fun (i2 : Int) (g : List (List Int)) => ⟨tab [(5, .loc 0 0 g.length), (79, vi (z1.length : Int)), (80, vi i2)], oG g, 2 + g.length⟩) 2 (fun (g : List (List Int)) => ⟨tab [(5, .loc 0 0 g.length)], oG g, 2 + g.length⟩) bv cf hl2 (by unfold bv; omega) ?_ ?_ ?_
 · rintro i2 g g9 hinv hgo h; have hc : decide (i2 < (z1.length : Int)) = true := decide_eq_true hgo; refine aM ⟨tab [(5, .loc 0 0 g.length), (79, vi (z1.length : Int)), (80, vi i2), (81, vb (decide (i2 < (z1.length : Int))))], oG g, 2 + g.length⟩ ?_ ?_
   · refine qq ?_; exact aQ.nil' (gy ⟨.loc 0 _ _ (by omega), .d _, .d _, .d _, trivial⟩)
   refine ck 79 rfl fun hB3 => ?_; refine aA ?_; refine aT rfl hc ?_; refine aX ?_; refine gg ⟨tab [(5, .loc 0 0 g9.length), (79, vi (z1.length : Int)), (80, vi i2)], oG g9, 2 + g9.length⟩ ?_ ?_
   · refine bt ?_; obtain ⟨l, hla, h⟩ := ap h; split at h
     · rename_i hll; obtain ⟨r8, hr8, h⟩ := ap h; obtain ⟨p1, p2, p3⟩ := nk hla; obtain ⟨hg9e, _⟩ := sf h; refine aM ⟨tab [(5, .loc 0 0 g.length), (12, vi i2), (79, vi (z1.length : Int)), (80, vi i2)], oG g, 2 + g.length⟩ ?_ ?_
       · refine q2 ?_; exact aQ.nil' (gy ⟨.loc 0 _ _ (by omega), .d _, .d _, .d _, trivial⟩)
       have hset1 : (g.set i2.toNat (db l)).length = g.length := by simp
       have hs5 : (db l).length = l.length := (ky l).length_eq; have gs : (g.set i2.toNat (db l))[i2.toNat]? = some (db l) := by rw [List.getElem?_set_self p3]
       refine aM ⟨tab [(5, .loc 0 0 (g.set i2.toNat (db l)).length), (12, vi i2), (79, vi (z1.length : Int)), (80, vi i2)], oG (g.set i2.toNat (db l)), 2 + (g.set i2.toNat (db l)).length⟩ ?_ ?_
       · refine q2 ?_; refine step (kE (m := g.length) rfl (show oG g 0 = some (.var (cS 2 g)) from rfl) rfl ⟨p1, by omega⟩ rfl) ?_; refine step (pm (g := g) rfl (show oG g 0 = some (.var (cS 2 g)) from rfl) (by rw [jc, p2]; rfl)) ?_; refine md (v := .d (.tup [])) (σ' := aw (aw (oG g) (2 + i2.toNat) none) (2 + i2.toNat) (some (.lst true none ((db l).map (D.int .i64))))) (n' := 2 + g.length) (nQ [2 + i2.toNat] (Co (by omega)) (show 1 ≤ 1 by decide) (by simp) (by intro q hq; simp at hq; omega) (nZ (show 0 < 1 by decide) n5) (dC.c (.loc 0 _ _ (by show 0 < 1; decide)) dC.nil0) (SN.c (by show 0 < 1; decide) (jN p2) (.lst _ _ _) SN.nil0)) (Nat.le_refl _) ?_; refine aQ.nil' (w4 (m := 2 + i2.toNat) p3 (.inl rfl) ?_ (bz _ _ _) (fun i l' hi hl' => ?_) ⟨.l0 hset1.symm (by show ite _ _ _ = 0; rw [if_neg (by omega)]) (by omega), .d _, .d _, .d _, trivial⟩)
         · rw [bg _ _ (by omega), bg _ _ (by omega)]; show some (bu.var (cS 2 g)) = _; congr 2; apply List.ext_getElem?; intro i; rw [List.getElem?_set, jd]; by_cases e : i2.toNat = i
           · subst e; rw [if_pos rfl, if_pos p3, jc, p2, hs5]; rfl
           · rw [if_neg e]
         · rw [bg _ _ (by omega), bg _ _ (by omega)]; exact jN hl'
       have p3' : i2.toNat < (g.set i2.toNat (db l)).length := by rw [hset1]; exact p3
       have hss : (g.set i2.toNat (db l)).set i2.toNat r8 = g9 := by rw [hg9e, List.set_set]
       have hset2 : g9.length = (g.set i2.toNat (db l)).length := by rw [← hss]; simp
       clear hg9e h hla p2 hset1; generalize g.set i2.toNat (db l) = g3 at *; refine dP ⟨tab [(5, .loc 0 0 g9.length), (79, vi (z1.length : Int)), (80, vi i2)], oG g9, 2 + g9.length⟩ ?_ (And.intro rfl rfl); refine q4 ?_; refine step (kE (m := g3.length) rfl (show oG g3 0 = some (.var (cS 2 g3)) from rfl) rfl ⟨p1, by omega⟩ rfl) ?_; refine step (pm (g := g3) rfl (show oG g3 0 = some (.var (cS 2 g3)) from rfl) (by rw [jc, gs]; rfl)) ?_; refine md (v := .loc (2 + i2.toNat) 0 r8.length) (σ' := aw (aw (oG g3) (2 + i2.toNat) none) (2 + i2.toNat) (some (.lst true none (r8.map (D.int .i64))))) (n' := 2 + g3.length) (nQ [2 + i2.toNat] (Eg hr8) (show 1 ≤ 1 by decide) (by simp) (by intro q hq; simp at hq; omega) (nZ (show 0 < 1 by decide) n5) (dC.c (.loc 0 _ _ (by show 0 < 1; decide)) dC.nil0) (SN.c (by show 0 < 1; decide) (jN gs) (.lst _ _ _) SN.nil0)) (Nat.le_refl _) ?_; have y0 : aw (aw (oG g3) (2 + i2.toNat) none) (2 + i2.toNat) (some (.lst true none (r8.map (D.int .i64)))) 0 = some (.var (cS 2 g3)) := by rw [bg _ _ (by omega), bg _ _ (by omega)]; rfl
       refine step (kE (m := g3.length) rfl y0 rfl ⟨p1, by omega⟩ rfl) ?_; refine step (se rfl rfl y0 (by rw [jd]; exact p3')) ?_; subst hss; refine aQ.nil' (w4 (m := 2 + i2.toNat) p3' (.inl rfl) (bz _ _ _) ?_ (fun i l' hi hl' => ?_) ⟨.l0 hset2.symm (by show ite _ _ _ = 0; rw [if_neg (by omega)]) (by omega), .d _, .d _, trivial⟩)
       · rw [bg _ _ (by omega), bz]
       · rw [bg _ _ (by omega), bg _ _ (by omega), bg _ _ (by omega)]; exact jN hl'
     · cases h
   · refine dP ⟨tab [(5, .loc 0 0 g9.length), (79, vi (z1.length : Int)), (80, vi (i2 + 1))], oG g9, 2 + g9.length⟩ ?_ ?_
     · refine step (ca (cb hinv hgo hB3) rfl rfl) ?_; refine qq ?_; exact aQ.nil' (gy ⟨.loc 0 _ _ (by omega), .d _, .d _, trivial⟩)
     exact And.intro rfl rfl
 · rintro i2 g hinv hgo; have hc : ¬ (decide (i2 < (z1.length : Int)) = true) := fun hq => hgo (of_decide_eq_true hq); refine aM ⟨tab [(5, .loc 0 0 g.length), (81, vb (decide (i2 < (z1.length : Int))))], oG g, 2 + g.length⟩ ?_ ?_
   · refine qq ?_; exact aQ.nil' (gy ⟨.loc 0 _ _ (by omega), .d _, trivial⟩)
   refine aA ?_; refine aS rfl hc ?_; refine dV (s0 := ⟨tab [(5, .loc 0 0 g.length)], oG g, 2 + g.length⟩) (gy ⟨.loc 0 _ _ (by omega), trivial⟩) ?_; refine b8 ?_; exact And.intro rfl rfl
 refine aM ⟨tab [(4, .loc 0 0 z2.length)], oG z2, 2 + z2.length⟩ ?_ ?_
 · refine q2 ?_; exact aQ.nil' (gy ⟨.loc 0 _ _ (by omega), trivial⟩)
 refine aY ?_; refine bH (.inr rfl) (aP (v := .loc 0 0 z2.length) rfl rfl) ?_; refine B5 (show oG z2 0 = some (.var (cS 2 z2)) from rfl) (by rw [jd]) Cf ?_ (by trivial); rw [List.all_eq_true]; intro d hd; obtain ⟨l, _, rfl⟩ := List.mem_map.1 hd; rfl
theorem sg {a0 : (List (List Int))} {a1 : Int} {r : Bool} (h : iD a0 a1 = some r) : PCall Try.prog 116 [eL none (eL none (D.int .i64)) a0, .int .i64 a1] (.bool r) := by
 refine PCall.inW CF ?_; refine aj ?_; refine qq ?_; refine nI ?_; refine aM ⟨tab [(4, vb ((decide (a1 ≥ 0)) && (decide (a1 < (a0.length : Int)))))], ai [], 0⟩ ?_ ?_
 · refine q3 ?_; by_cases hg1 : decide (a1 ≥ 0) = true
   · refine gq hg1 ?_; refine gq hg1 ?_; refine qG _ hg1 ?_; refine step (bx (xs := a0) (e := (eL none (D.int .i64))) rfl) ?_; refine gq hg1 ?_; refine step (aW rfl hg1 rfl) ?_; refine qq ?_; exact aQ.nil' (nm [] ⟨.eq (by first | (simp [hg1]; done) | (simp_all; done) | grind), trivial⟩ trivial)
   · (iterate 4 refine gX hg1 ?_); refine step (bp rfl hg1 rfl) ?_; refine qq ?_; exact aQ.nil' (nm [] ⟨.eq (by first | (simp [hg1]; done) | (simp_all; done) | grind), trivial⟩ trivial)
 cases sj h; refine aY ?_; exact bH (.inr rfl) (aP rfl rfl) (RV.d trivial)
@[reducible] def fS (g : List D) (d q : List Int) : aL := ai [(0, .lst true none (List.map (D.int .i64) d)), (1, .lst false none (g ++ List.map (D.int .i64) q))]
theorem En {T : Nat → V} {n : Nat} {x y : AX} {g : List D} {d q : List Int} {i : Int} {k : Int} (hx : aF T x = .loc 1 g.length q.length) (hy : aF T y = vi i) (h : be q i = some k) : aI (.iaddr none x y) (aF T) (fS g d q) n = some (.ptr 1 (g.length + i.toNat) 0, fS g d q, n) := by
 obtain ⟨h1, _, h3⟩ := nk h; have hk : cI (fS g d q) (.loc 1 g.length q.length) = some none := rfl; simp only [aI, hx, hy, hk]; rw [if_pos ⟨trivial, h1, by omega⟩]
theorem Eo {T : Nat → V} {n : Nat} {x : AX} {g : List D} {d q : List Int} {i : Int} {k : Int} (hx : aF T x = .ptr 1 (g.length + i.toNat) 0) (h : be q i = some k) : aI (.load none x) (aF T) (fS g d q) n = some (vi k, fS g d q, n) := by
 obtain ⟨h1, h2, h3⟩ := nk h
 have e : (g ++ List.map (D.int .i64) q)[g.length + i.toNat]? = some (.int .i64 k) := by
  rw [List.getElem?_append_right (by omega), Nat.add_sub_cancel_left, List.getElem?_map, h2]; rfl
 have e2 : cW (fS g d q) none (.ptr 1 (g.length + i.toNat) 0) = some (vi k) := by
  show (match (g ++ List.map (D.int .i64) q)[g.length + i.toNat]? with | some d => (fH none d 0 none).map V.d | none => none) = _
  rw [e]; rfl
 simp [aI, hx, e2]
theorem Ep {T : Nat → V} {n : Nat} {x : AX} {g : List D} {d q q2 : List Int} (hx : aF T x = .loc 1 g.length q.length) (h : eF q 1 (q.length : Int) = some q2) : aI (.slc none x (some (.c (.int .i64 1))) none) (aF T) (fS g d q) n = some (.loc 1 (g.length + 1) q2.length, fS g d q, n) := by
 unfold eF at h; split at h
 · rename_i hc; cases h; have hk : cI (fS g d q) (.loc 1 g.length q.length) = some none := rfl
   have hb : fx q.length ((some (AX.c (.int .i64 1))).map (aF T)) (Option.map (aF T) none) = some (1, q.length) := by
    have h1 : (1 : Int) ≤ q.length := by omega
    simp [fx, aF, gW, h1]
   simp only [aI, hx, hk, hb, if_true]; have : List.length (List.take ((q.length : Int).toNat - Int.toNat 1) (List.drop (Int.toNat 1) q)) = q.length - 1 := by simp
   rw [this]
 · cases h
theorem Er {q q2 : List Int} (h : eF q 1 (q.length : Int) = some q2) : ∃ x, q = x :: q2 := by
 unfold eF at h; split at h
 · rename_i hc; cases h; cases q with
   | nil => simp at hc; | cons x q => exact ⟨x, by simp⟩
 · cases h
def Es : bC :=
 (.seq (.ops false [
  ⟨some 17, .bin .lss (.t 16) (.t 15), none⟩])
  (.seq (.cond (.t 17)
   (.skip)
   (.exit 0))
  (.seq (.block 1 (.seq (.ops false [
   ⟨some 18, .mov (.t 16), none⟩,
   ⟨some 6, .mov (.t 18), none⟩])
   (.ops false [
    ⟨some 19, .mov (.t 5), none⟩,
    ⟨some 20, .mov (.t 6), none⟩,
    ⟨some 21, .iaddr none (.t 19) (.t 20), none⟩,
    ⟨none, .store none (.t 21) (.c (.int .i64 (-1))), none⟩])))
  (.ops false [
   ⟨some 22, .bin .add (.t 16) (.c (.int .i64 1)), none⟩,
   ⟨some 16, .mov (.t 22), none⟩]))))
def Et : bC :=
 (.seq (.ops false [
  ⟨some 47, .bin .lss (.t 46) (.t 45), none⟩])
  (.seq (.cond (.t 47)
   (.skip)
   (.exit 4))
  (.seq (.block 5 (.seq (.ops false [
   ⟨some 48, .iaddr none (.t 44) (.t 46), none⟩,
   ⟨some 49, .load none (.t 48), none⟩,
   ⟨some 10, .mov (.t 49), none⟩])
   (.seq (.ops false [
    ⟨some 50, .mov (.t 5), none⟩,
    ⟨some 51, .mov (.t 10), none⟩,
    ⟨some 52, .iaddr none (.t 50) (.t 51), none⟩,
    ⟨some 53, .load none (.t 52), none⟩,
    ⟨some 54, .bin .lss (.t 53) (.c (.int .i64 0)), none⟩])
   (.cond (.t 54)
   (.seq (.ops false [
    ⟨some 55, .mov (.t 5), none⟩,
    ⟨some 56, .mov (.t 10), none⟩,
    ⟨some 57, .mov (.t 5), none⟩,
    ⟨some 58, .mov (.t 8), none⟩,
    ⟨some 59, .iaddr none (.t 57) (.t 58), none⟩,
    ⟨some 60, .load none (.t 59), none⟩,
    ⟨some 61, .bin .add (.t 60) (.c (.int .i64 1)), none⟩,
    ⟨some 62, .iaddr none (.t 55) (.t 56), none⟩,
    ⟨none, .store none (.t 62) (.t 61), none⟩])
    (.ops false [
     ⟨some 63, .mov (.t 7), none⟩,
     ⟨some 64, .mov (.t 10), none⟩,
     ⟨some 65, .bsliceI none [(.t 64)], none⟩,
     ⟨some 66, .append none (.t 63) (.t 65) false, none⟩,
     ⟨some 7, .mov (.t 66), none⟩]))
   (.skip)))))
  (.ops false [
   ⟨some 67, .bin .add (.t 46) (.c (.int .i64 1)), none⟩,
   ⟨some 46, .mov (.t 67), none⟩]))))
def Eu : bC :=
 (.seq (.seq (.ops false [
  ⟨some 33, .mov (.t 7), none⟩,
  ⟨some 34, .len (.t 33), none⟩,
  ⟨some 35, .bin .gtr (.t 34) (.c (.int .i64 0)), none⟩])
  (.cond (.t 35)
  (.skip)
  (.exit 2)))
  (.seq (.block 3 (.seq (.ops false [
   ⟨some 38, .mov (.t 7), none⟩,
   ⟨some 39, .iaddr none (.t 38) (.c (.int .i64 0)), none⟩,
   ⟨some 40, .load none (.t 39), none⟩,
   ⟨some 8, .mov (.t 40), none⟩])
   (.seq (.ops false [
    ⟨some 41, .mov (.t 0), none⟩,
    ⟨some 42, .mov (.t 8), none⟩,
    ⟨some 43, .iaddr none (.t 41) (.t 42), none⟩,
    ⟨some 44, .load none (.t 43), none⟩,
    ⟨some 45, .len (.t 44), none⟩,
    ⟨some 46, .mov (.c (.int .i64 0)), none⟩])
   (.block 4 (.loop Et)))))
  (.ops false [
   ⟨some 36, .mov (.t 7), none⟩,
   ⟨some 37, .slc none (.t 36) (some (.c (.int .i64 1))) none, none⟩,
   ⟨some 7, .mov (.t 37), none⟩])))
def Ev : bY := .mk 69
 (.seq (.ops false [
  ⟨some 4, .mov (.c (.vec none [])), none⟩])
  (.seq (.ops false [
   ⟨some 11, .mov (.t 0), none⟩,
   ⟨some 12, .len (.t 11), none⟩,
   ⟨some 13, .mkslice none (.int .i64 0) (.t 12) (.t 12), none⟩,
   ⟨some 5, .mov (.t 13), none⟩])
  (.seq (.seq (.ops false [
   ⟨some 14, .mov (.t 5), none⟩,
   ⟨some 15, .len (.t 14), none⟩,
   ⟨some 16, .mov (.c (.int .i64 0)), none⟩])
   (.block 0 (.loop Es)))
  (.seq (.seq (.ops false [
   ⟨some 23, .mov (.t 0), none⟩,
   ⟨some 24, .mov (.t 1), none⟩,
   ⟨some 25, .call false 116 [(.t 23), (.t 24)], none⟩,
   ⟨some 26, .un .not (.t 25), none⟩])
   (.cond (.t 26)
   (.seq (.ops false [
    ⟨some 27, .mov (.t 5), none⟩,
    ⟨some 4, .mov (.t 27), none⟩])
    (.ret))
   (.skip)))
  (.seq (.ops false [
   ⟨some 28, .mov (.t 5), none⟩,
   ⟨some 29, .mov (.t 1), none⟩,
   ⟨some 30, .iaddr none (.t 28) (.t 29), none⟩,
   ⟨none, .store none (.t 30) (.c (.int .i64 0)), none⟩])
  (.seq (.seq (.ops false [
   ⟨some 31, .mov (.t 1), none⟩,
   ⟨some 32, .bslice none [(.t 31)] false, none⟩,
   ⟨some 7, .mov (.t 32), none⟩])
   (.block 2 (.loop Eu)))
  (.seq (.ops false [
   ⟨some 68, .mov (.t 5), none⟩,
   ⟨some 4, .mov (.t 68), none⟩])
  (.ret))))))))
 [.t 4]
theorem Ew {a0 : (List (List Int))} {a1 : Int} {r : (List Int)} (h : od a0 a1 = some r) : PCall Try.prog 117 [eL none (eL none (D.int .i64)) a0, .int .i64 a1] (eL none (D.int .i64) r) := by
 refine PCall.inW Ev ?_; refine aj ?_; refine qq ?_; refine nI ?_; obtain ⟨l5, hl5, h⟩ := ap h; refine aM ⟨tab [(0, .d (eL none (eL none (D.int .i64)) a0)), (1, vi a1), (5, .loc 0 0 l5.length)], ai (c6 l5), 1⟩ ?_ ?_
 · refine qq ?_; refine step (bx (xs := a0) (e := (eL none (D.int .i64))) rfl) ?_; refine step (t7 (e := (D.int .i64)) (z := 0) hl5 rfl rfl (qi hl5)) ?_; refine qq ?_; exact nR [0]
 refine aA ?_; refine aj ?_; refine q3 ?_; refine nT [(0, .d (eL none (eL none (D.int .i64)) a0)), (1, vi a1), (5, .loc 0 0 l5.length), (15, vi (l5.length : Int)), (16, vi 0)] ?_; obtain ⟨z15, hl, h⟩ := ap h; refine bt ?_; refine eo (ce (l5.length : Int)) (fun (i7 : Int) (qq : (List Int)) => ⟨tab [(0, .d (eL none (eL none (D.int .i64)) a0)), (1, vi a1), (5, .loc 0 0 qq.length), (15, vi (l5.length : Int)), (16, vi i7)], ai (c6 qq), 1⟩) 0 (fun (qq : (List Int)) => ⟨tab [(0, .d (eL none (eL none (D.int .i64)) a0)), (1, vi a1), (5, .loc 0 0 qq.length)], ai (c6 qq), 1⟩) bv cf hl (by unfold bv; omega) ?_ ?_ ?_
 · rintro i7 l6 xr12 hinv10 hgo9 h; have hc11 := dy hgo9; refine aj ?_; refine qq ?_; refine nI ?_; refine ck 15 rfl fun hB8 => ?_; refine aA ?_; refine aT rfl hc11 ?_; refine aX ?_; refine aA ?_; refine bt ?_; refine aj ?_; refine q2 ?_; refine nI ?_; obtain ⟨x13, hx13, h⟩ := ap h; obtain ⟨l14, hl14, h⟩ := ap h; refine dP ⟨tab [(0, .d (eL none (eL none (D.int .i64)) a0)), (1, vi a1), (5, .loc 0 0 l14.length), (15, vi (l5.length : Int)), (16, vi i7)], ai (c6 l14), 1⟩ ?_ ?_
   · refine q2 ?_; refine step (fY (xs := l6) (e := (D.int .i64)) hx13 rfl rfl rfl rfl) ?_; refine step (ke (e := (D.int .i64)) (v' := (-1)) hl14 rfl rfl rfl rfl rfl) ?_; exact aQ.nil' (nm [0] ⟨.d _, .d _, .le (id := 0) (kc hl14).symm (show 0 < 1 by decide), .d _, .d _, trivial⟩ ⟨⟨show 0 < 1 by decide, _, rfl, .lst _ _ _⟩, trivial⟩)
   cases sj h; refine bZ (And.intro rfl rfl) ?_; refine step (ca (cb hinv10 hgo9 hB8) rfl rfl) ?_; refine qq ?_; exact nR [0]
 · rintro i7 l6 hinv10 hgo9; have hc11 := dn hgo9; refine aj ?_; refine qq ?_; refine nI ?_; refine aA ?_; refine aS rfl hc11 ?_; refine b4 [(0, .d (eL none (eL none (D.int .i64)) a0)), (1, vi a1), (5, .loc 0 0 l6.length)] ?_; refine b8 ?_; exact ⟨rfl, rfl⟩
 refine aA ?_; obtain ⟨r2, hr2, h⟩ := ap h; refine aA ?_; refine dP ⟨tab [(0, .d (eL none (eL none (D.int .i64)) a0)), (1, vi a1), (5, .loc 0 0 z15.length), (26, vb (!r2))], ai (c6 z15), 1⟩ ?_ ?_
 · refine q2 ?_; refine bN (aO (aO bq.nil')) (sg hr2) ?_; refine qq ?_; exact nR [0]
 by_cases hc : (!r2) = true
 · replace h := aU hc h; refine aT rfl hc ?_; refine aM ⟨tab [(4, .loc 0 0 z15.length)], ai (c6 z15), 1⟩ ?_ ?_
   · refine q2 ?_; exact nR [0]
   cases sj h; refine aY ?_; exact bH (.inr rfl) (aP rfl rfl) (RV.loc rfl (by simp) trivial)
 replace h := aV hc h; refine aS rfl hc ?_; refine aX ?_; obtain ⟨x16, hx16, h⟩ := ap h; obtain ⟨l17, hl17, h⟩ := ap h; refine aM ⟨tab [(0, .d (eL none (eL none (D.int .i64)) a0)), (1, vi a1), (5, .loc 0 0 l17.length)], ai (c6 l17), 1⟩ ?_ ?_
 · refine q2 ?_; refine step (fY (xs := z15) (e := (D.int .i64)) hx16 rfl rfl rfl rfl) ?_; refine step (ke (e := (D.int .i64)) (v' := 0) hl17 rfl rfl rfl rfl rfl) ?_; exact aQ.nil' (nm [0] ⟨.d _, .d _, .le (id := 0) (kc hl17).symm (show 0 < 1 by decide), trivial⟩ ⟨⟨show 0 < 1 by decide, _, rfl, .lst _ _ _⟩, trivial⟩)
 refine aA ?_; refine aM ⟨tab [(0, .d (eL none (eL none (D.int .i64)) a0)), (5, .loc 0 0 l17.length), (7, .loc 1 0 1)], fS [] l17 [a1], 2⟩ ?_ ?_
 · refine q3 ?_; exact nR [0, 1]
 obtain ⟨⟨z, zq⟩, hl2, h⟩ := ap h; cases sj h; refine bt ?_; refine Ca (γ := List D) (fun (g : List D) (s : List Int × List Int) => ⟨tab [(0, .d (eL none (eL none (D.int .i64)) a0)), (5, .loc 0 0 s.1.length), (7, .loc 1 g.length s.2.length)], fS g s.1 s.2, 2⟩) 2 (fun (g : List D) (s : List Int × List Int) => ⟨tab [(5, .loc 0 0 s.1.length)], ai (c6 s.1), 1⟩) (g := []) hl2 ?_ ?_
 · rintro g ⟨d, q⟩ x h; refine aA ?_; refine aA ?_; refine dP ⟨tab [(0, .d (eL none (eL none (D.int .i64)) a0)), (5, .loc 0 0 d.length), (7, .loc 1 g.length q.length), (35, vb (decide ((q.length : Int) > 0)))], fS g d q, 2⟩ ?_ ?_
   · refine q3 ?_; exact nR [0, 1]
   by_cases hc : decide ((q.length : Int) > 0) = true
   · replace h := aU hc h; refine aT rfl hc ?_; refine aX ?_; obtain ⟨xh, hxh, h⟩ := ap h; obtain ⟨l, hll, h⟩ := ap h; obtain ⟨⟨d2, q2⟩, hl3, h⟩ := ap h; obtain ⟨q3, hq3, h⟩ := ap h; cases sj h; refine aA ?_; refine bt ?_; refine aM ⟨tab [(0, .d (eL none (eL none (D.int .i64)) a0)), (5, .loc 0 0 d.length), (7, .loc 1 g.length q.length), (8, vi xh)], fS g d q, 2⟩ ?_ ?_
     · refine qq ?_; refine step (En rfl rfl hxh) ?_; refine step (Eo rfl hxh) ?_; refine qq ?_; exact nR [0, 1]
     refine aM ⟨tab [(0, .d (eL none (eL none (D.int .i64)) a0)), (5, .loc 0 0 d.length), (7, .loc 1 g.length q.length), (8, vi xh), (44, cO l), (45, vi (l.length : Int)), (46, vi 0)], fS g d q, 2⟩ ?_ ?_
     · (iterate 2 refine q1 _ ?_); refine step (bP (xs := a0) (e := (eL none (D.int .i64))) hll rfl rfl) ?_; refine q1 _ ?_; refine step (bx (xs := l) (e := (D.int .i64)) rfl) ?_; refine q1 _ ?_; exact nR [0, 1]
     refine bt ?_; refine Cb (γ := List D) (ce (l.length : Int)) (fun (g : List D) (i : Int) (s : List Int × List Int) => ⟨tab [(0, .d (eL none (eL none (D.int .i64)) a0)), (5, .loc 0 0 s.1.length), (7, .loc 1 g.length s.2.length), (8, vi xh), (44, cO l), (45, vi (l.length : Int)), (46, vi i)], fS g s.1 s.2, 2⟩) 4 (fun (g : List D) (s : List Int × List Int) => ⟨tab [(0, .d (eL none (eL none (D.int .i64)) a0)), (5, .loc 0 0 s.1.length), (7, .loc 1 g.length s.2.length)], fS g s.1 s.2, 2⟩) bv cf (g := g) hl3 (by unfold bv; omega) ?_ ?_ ?_
     · rintro g i ⟨d, q⟩ ⟨d9, q9⟩ hinv hgo h; have hci : decide (i < (l.length : Int)) = true := decide_eq_true hgo; refine aM ⟨tab [(0, .d (eL none (eL none (D.int .i64)) a0)), (5, .loc 0 0 d.length), (7, .loc 1 g.length q.length), (8, vi xh), (44, cO l), (45, vi (l.length : Int)), (46, vi i), (47, vb (decide (i < (l.length : Int))))], fS g d q, 2⟩ ?_ ?_
       · refine qq ?_; exact nR [0, 1]
       refine ck 45 rfl fun hB => ?_; refine aA ?_; refine aT rfl hci ?_; refine aX ?_; obtain ⟨k, hk, h⟩ := ap h; obtain ⟨dk, hdk, h⟩ := ap h
       have tailR : ∀ (g2 : List D), bG Try.prog 69 0 (.ops false [oo 67 (.bin .add (.t 46) (ci 1)), oo 46 (.mov (.t 67))]) (fun e s' => e = .normal ∧ ∃ g3 : List D, s' = (⟨tab [(0, .d (eL none (eL none (D.int .i64)) a0)), (5, .loc 0 0 d9.length), (7, .loc 1 g3.length q9.length), (8, vi xh), (44, cO l), (45, vi (l.length : Int)), (46, vi (i + 1))], fS g3 d9 q9, 2⟩ : S)) ⟨tab [(0, .d (eL none (eL none (D.int .i64)) a0)), (5, .loc 0 0 d9.length), (7, .loc 1 g2.length q9.length), (8, vi xh), (44, cO l), (45, vi (l.length : Int)), (46, vi i)], fS g2 d9 q9, 2⟩ := by
        intro g2
        refine dP ⟨tab [(0, .d (eL none (eL none (D.int .i64)) a0)), (5, .loc 0 0 d9.length), (7, .loc 1 g2.length q9.length), (8, vi xh), (44, cO l), (45, vi (l.length : Int)), (46, vi (i + 1))], fS g2 d9 q9, 2⟩ ?_ ⟨rfl, g2, rfl⟩
        refine step (ca (cb hinv hgo hB) rfl rfl) ?_
        refine qq ?_
        exact nR [0, 1]
       refine aA ?_; refine bt ?_; refine aM ⟨tab [(0, .d (eL none (eL none (D.int .i64)) a0)), (5, .loc 0 0 d.length), (7, .loc 1 g.length q.length), (8, vi xh), (10, vi k), (44, cO l), (45, vi (l.length : Int)), (46, vi i)], fS g d q, 2⟩ ?_ ?_
       · refine step (bP (xs := l) (e := (D.int .i64)) hk rfl rfl) ?_; (iterate 2 refine q1 _ ?_); exact nR [0, 1]
       refine aM ⟨tab [(0, .d (eL none (eL none (D.int .i64)) a0)), (5, .loc 0 0 d.length), (7, .loc 1 g.length q.length), (8, vi xh), (10, vi k), (44, cO l), (45, vi (l.length : Int)), (46, vi i), (54, vb (decide (dk < 0)))], fS g d q, 2⟩ ?_ ?_
       · (iterate 2 refine q1 _ ?_); refine step (fY (xs := d) (e := (D.int .i64)) hdk rfl rfl rfl rfl) ?_; refine step (g8 (xs := d) (e := (D.int .i64)) hdk rfl rfl rfl) ?_; refine q1 _ ?_; exact nR [0, 1]
       by_cases hck : decide (dk < 0) = true
       · replace h := aU hck h; obtain ⟨dx, hdx, h⟩ := ap h; obtain ⟨d3, hd3, h⟩ := ap h; obtain ⟨q4, hq4, h⟩ := ap h; obtain ⟨rfl, rfl⟩ := Prod.mk.inj (bM h); refine aT rfl hck ?_; have hkd : be d k = some dk := hdk; refine aM ⟨tab [(0, .d (eL none (eL none (D.int .i64)) a0)), (5, .loc 0 0 d3.length), (7, .loc 1 g.length q.length), (8, vi xh), (10, vi k), (44, cO l), (45, vi (l.length : Int)), (46, vi i)], fS g d3 q, 2⟩ ?_ ?_
         · (iterate 4 refine q1 _ ?_); refine step (fY (xs := d) (e := (D.int .i64)) hdx rfl rfl rfl rfl) ?_; refine step (g8 (xs := d) (e := (D.int .i64)) hdx rfl rfl rfl) ?_; refine q1 _ ?_; refine step (fY (xs := d) (e := (D.int .i64)) hdk rfl rfl rfl rfl) ?_; refine step (ke (e := (D.int .i64)) (v' := (IntKind.i64.wrap (dx + 1))) hd3 rfl rfl rfl rfl rfl) ?_; exact aQ.nil' (nm [0, 1] ⟨.d _, .le (id := 0) (kc hd3).symm (show 0 < 2 by decide), .lc 1, .d _, .d _, .d _, .d _, .d _, trivial⟩ ⟨⟨show 0 < 2 by decide, _, rfl, .lst _ _ _⟩, ⟨show 1 < 2 by decide, _, rfl, .lst _ _ _⟩, trivial⟩)
         have hq5 : q4 = q ++ [k] ∧ q.length + 1 ≤ 4294967296 := by
          unfold cY at hq4
          split at hq4
          ·
           rename_i hle; cases hq4; exact ⟨rfl, hle⟩
          ·
           cases hq4
         obtain ⟨rfl, hle⟩ := hq5; refine B9 ?_; refine .inl (q1 _ (aQ.nil' ?_)); refine .inl (q1 _ (aQ.nil' ?_)); refine .inl (q1 (.d (.vec none [.int .i64 k])) (aQ.nil' ?_)); refine .inr ⟨rfl, none, .t 63, .t 65, false, 1, g.length, q.length, false, g ++ List.map (D.int .i64) q, [.int .i64 k], rfl, rfl, rfl, by simp, by simp [fv, fI, cI, eC, aF, bD, aw], by simpa [fQ] using hle, fun g2 => ?_⟩; refine .inl (q1 (.loc 2 g2.length (q.length + 1)) (aQ.nil' ?_)); refine ⟨⟨tab [(0, .d (eL none (eL none (D.int .i64)) a0)), (5, .loc 0 0 d3.length), (7, .loc 1 g2.length (q ++ [k]).length), (8, vi xh), (44, cO l), (45, vi (l.length : Int)), (46, vi i)], fS g2 d3 (q ++ [k]), 2⟩, ?_, tailR g2⟩; have e1 : List.drop g.length (g ++ List.map (D.int .i64) q) ++ [D.int .i64 k] = List.map (D.int .i64) (q ++ [k]) := by simp
         rw [e1]; have e2 : (q ++ [k]).length = q.length + 1 := by simp
         rw [e2]; exact nr [0, 2]
       · replace h := aV hck h; obtain ⟨rfl, rfl⟩ := Prod.mk.inj (bM h); refine aS rfl hck ?_; refine dV (s0 := ⟨tab [(0, .d (eL none (eL none (D.int .i64)) a0)), (5, .loc 0 0 d.length), (7, .loc 1 g.length q.length), (8, vi xh), (44, cO l), (45, vi (l.length : Int)), (46, vi i)], fS g d q, 2⟩) (nr [0, 1]) ?_; refine aX ?_; exact tailR g
     · rintro g i ⟨d, q⟩ hinv hgo; have hci : ¬ (decide (i < (l.length : Int)) = true) := fun hq => hgo (of_decide_eq_true hq); refine aM ⟨tab [(0, .d (eL none (eL none (D.int .i64)) a0)), (5, .loc 0 0 d.length), (7, .loc 1 g.length q.length), (47, vb (decide (i < (l.length : Int))))], fS g d q, 2⟩ ?_ ?_
       · refine qq ?_; exact nR [0, 1]
       refine aA ?_; refine aS rfl hci ?_; refine dV (s0 := ⟨tab [(0, .d (eL none (eL none (D.int .i64)) a0)), (5, .loc 0 0 d.length), (7, .loc 1 g.length q.length)], fS g d q, 2⟩) (nr [0, 1]) ?_; refine b8 ?_; exact ⟨rfl, rfl⟩
     intro g2; obtain ⟨xq, hxq⟩ := Er hq3; refine dP ⟨tab [(0, .d (eL none (eL none (D.int .i64)) a0)), (5, .loc 0 0 d2.length), (7, .loc 1 (g2 ++ [D.int .i64 xq]).length q3.length)], fS (g2 ++ [D.int .i64 xq]) d2 q3, 2⟩ ?_ ⟨rfl, _, rfl⟩; refine qq ?_; refine step (Ep rfl hq3) ?_; refine qq ?_; have e1 : g2 ++ List.map (D.int .i64) q2 = (g2 ++ [D.int .i64 xq]) ++ List.map (D.int .i64) q3 := by rw [hxq]; simp
     have e2 : (g2 ++ [D.int .i64 xq]).length = g2.length + 1 := by simp
     rw [e2]; refine aQ.nil' (nm [0, 1] ⟨.d _, .lc 0, .lc 1, trivial⟩ ⟨⟨show 0 < 2 by decide, _, rfl, .lst _ _ _⟩, ⟨show 1 < 2 by decide, _, rfl, ?_⟩, trivial⟩); rw [e1]; exact .lst _ _ _
   · replace h := aV hc h; cases sj h; refine aS rfl hc ?_; refine dV (s0 := ⟨tab [(5, .loc 0 0 d.length)], ai (c6 d), 1⟩) (nr [0]) ?_; refine b8 ?_; exact ⟨rfl, g, rfl⟩
 intro g2; refine aj ?_; refine q2 ?_; refine nI ?_; refine aY ?_; exact bH (.inr rfl) (aP rfl rfl) (RV.loc rfl (by simp) trivial)
theorem Ey {a0 : Int} {a1 : (List Int)} {a2 : Int} {r : Bool} (h : oe a0 a1 a2 = some r) : PCall Try.prog 119 [.int .i64 a0, .cptr none (eL none (D.int .i64) a1) 0, .cptr none (.int .i64 a2) 0] (.bool r) := by
 refine PCall.inW CG ?_; refine aj ?_; refine qq ?_; refine nI ?_; obtain ⟨x1, hx1, h⟩ := ap h; obtain ⟨x2, hx2, h⟩ := ap h; refine aj ?_; refine q2 ?_; refine step (bP (xs := a1) (e := (D.int .i64)) hx1 rfl rfl) ?_; refine q3 ?_; refine step (bP (xs := a1) (e := (D.int .i64)) hx2 rfl rfl) ?_; refine q4 ?_; refine nI ?_; cases sj h; refine aY ?_; exact bH (.inr rfl) (aP rfl rfl) (RV.d trivial)
theorem Ez {a0 : (List Int)} {a1 : Int → Option Bool} {g_a1 : D} (hf_a1 : qg Try.prog g_a1 (D.int .i64) D.bool a1) {r : Int} (h : og a0 a1 = some r) : PCall Try.prog 118 [eL none (D.int .i64) a0, g_a1] (.int .i64 r) := by
 obtain ⟨fn_a1, cap_a1, rfl, hc_a1⟩ := hf_a1; refine PCall.inW CI ?_; refine aj ?_; refine qq ?_; refine nI ?_; refine aA ?_; refine aj ?_; refine qq ?_; refine step (bx (xs := a0) (e := (D.int .i64)) rfl) ?_; refine qq ?_; refine nT [(0, cO a0), (1, .d (.func fn_a1 cap_a1)), (7, vi (a0.length : Int)), (8, vi 0)] ?_; obtain ⟨q10, hl, h⟩ := ap h; refine bt ?_; refine dj (ce (a0.length : Int)) (fun (i1 : Int) (qq : Unit) => ⟨tab [(0, cO a0), (1, .d (.func fn_a1 cap_a1)), (7, vi (a0.length : Int)), (8, vi i1)], ai [], 0⟩) 0 (fun (qq : Unit) => ⟨tab [], ai [], 0⟩) bv cf (r := r) hl (by unfold bv; omega) ?_ ?_ ?_ ?_
 · rintro i1 ⟨⟩ xr6 hinv4 hgo3 h; have hc5 := dy hgo3; refine aj ?_; refine qq ?_; refine nI ?_; refine ck 7 rfl fun hB2 => ?_; refine aA ?_; refine aT rfl hc5 ?_; refine aX ?_; refine aA ?_; refine bt ?_; refine aj ?_; refine q2 ?_; refine nI ?_; obtain ⟨x7, hx7, h⟩ := ap h; obtain ⟨x8, hx8, h⟩ := ap h; refine aj ?_; refine q3 ?_; refine step (bP (xs := a0) (e := (D.int .i64)) hx7 rfl rfl) ?_; refine qq ?_; refine nN (r := .bool x8) rfl (aO bq.nil') (hc_a1 _ _ hx8) ?_; refine nI ?_; by_cases hc9 : x8 = true
   · replace h := aU hc9 h; refine aT rfl hc9 ?_; refine aj ?_; refine q2 ?_; refine nI ?_; obtain ⟨r10, kr10, hr⟩ := cF (o := some i1) (g := Br.ret) h; subst hr; have h := kr10; cases sj h; refine aY ?_; refine And.intro (fun hn => nomatch hn) ?_; intro hq; have hq := hq.symm; subst hq; exact bH (.inr rfl) (aP rfl rfl) (RV.d trivial)
   · replace h := aV hc9 h; refine aS rfl hc9 ?_; refine aX ?_; cases sj h; refine bZ (And.intro rfl rfl) ?_; refine step (ca (cb hinv4 hgo3 hB2) rfl rfl) ?_; refine qq ?_; exact nR []
 · rintro i1 ⟨⟩ hinv4 hgo3; have hc5 := dn hgo3; refine aj ?_; refine qq ?_; refine nI ?_; refine aA ?_; refine aS rfl hc5 ?_; refine b4 [] ?_; refine b8 ?_; exact ⟨rfl, rfl⟩
 · intro r' hq; subst hq; exact bM h
 rintro ⟨⟩ rfl; refine aM ⟨tab [(4, vi (-1))], ai [], 0⟩ ?_ ?_
 · refine qq ?_; exact nR []
 cases sj h; refine aY ?_; exact bH (.inr rfl) (aP rfl rfl) (RV.d trivial)
theorem EA {a0 : api_Topo} {a1 : Int} {a2 : Int} {r : ((List Int) × Bool)} (h : iE a0 a1 a2 = some r) : PCall Try.prog 104 [eapi_Topo a0, .int .i64 a1, .int .i64 a2] (.tup [eL none (D.int .i64) r.1, .bool r.2]) := by
 refine PCall.inW CK ?_; refine aj ?_; refine q3 ?_; refine nI ?_; obtain ⟨r1, hr1, h⟩ := ap h; refine aj ?_; refine qq ?_; refine bN (aO (aO bq.nil')) (Em hr1) ?_; refine qq ?_; refine nI ?_; refine aA ?_; obtain ⟨r2, hr2, h⟩ := ap h; obtain ⟨y5, hv, h⟩ := ap h; refine aM ⟨tab [(1, vi a1), (2, vi a2), (8, .d (eL none (eL none (D.int .i64)) r1)), (24, vb y5)], ai [], 0⟩ ?_ ?_
 · refine q2 ?_; refine bN (aO (aO bq.nil')) (sg hr2) ?_; refine q2 ?_; by_cases hg3 : (!r2) = true
   · replace hv := aU hg3 hv; (iterate 4 refine qX (!r2) (by rw [hg3]; decide) ?_); refine step (aW rfl hg3 rfl) ?_; cases sj hv; exact nR []
   · replace hv := aV hg3 hv; obtain ⟨r4, hr4, hv⟩ := ap hv; refine gq (bf hg3) ?_; refine gq (bf hg3) ?_; refine qG _ (bf hg3) ?_; refine bN (aO (aO bq.nil')) (sg hr4) ?_; refine gq (bf hg3) ?_; refine step (bp rfl hg3 rfl) ?_; cases sj hv; exact nR []
 by_cases hc7 : y5 = true
 · replace h := aU hc7 h; refine aT rfl hc7 ?_; refine aj ?_; refine q2 ?_; refine nI ?_; cases sj h; refine aY ?_; exact cq (.inr rfl) (aP rfl (aP rfl rfl)) (RV.d (RV.d trivial))
 · replace h := aV hc7 h; refine aS rfl hc7 ?_; refine aX ?_; obtain ⟨r8, hr8, h⟩ := ap h; refine aM ⟨tab [(1, vi a1), (2, vi a2), (8, .d (eL none (eL none (D.int .i64)) r1)), (9, .ptr 0 0 0)], ai [(0, .var [cO r8])], 1⟩ ?_ ?_
   · refine q2 ?_; refine bN (aO (aO bq.nil')) (Ew hr8) ?_; refine q2 ?_; exact nR [0]
   refine aA ?_; obtain ⟨x9, hx9, h⟩ := ap h; refine aj ?_; refine q2 ?_; refine step (bP (xs := r8) (e := (D.int .i64)) hx9 rfl rfl) ?_; refine q2 ?_; refine nI ?_; by_cases hc10 : decide (x9 < 0) = true
   · replace h := aU hc10 h; refine aT rfl hc10 ?_; refine aM ⟨tab [(6, cO ([] : List Int)), (7, vb false)], ai [], 0⟩ ?_ ?_
     · refine q2 ?_; exact nR []
     cases sj h; refine aY ?_; exact cq (.inr rfl) (aP rfl (aP rfl rfl)) (RV.d (RV.d trivial))
   · replace h := aV hc10 h; refine aS rfl hc10 ?_; refine aX ?_; refine aM ⟨tab [(1, vi a1), (2, vi a2), (8, .d (eL none (eL none (D.int .i64)) r1)), (9, .ptr 0 0 0), (10, .loc 1 0 (([a1] : List Int).length))], ai [(0, .var [cO r8]), (1, .lst false none (List.map (D.int .i64) ([a1] : List Int)))], 2⟩ ?_ ?_
     · refine q3 ?_; exact nR [0, 1]
     refine aA ?_; refine aM ⟨tab [(2, vi a2), (8, .d (eL none (eL none (D.int .i64)) r1)), (9, .ptr 0 0 0), (10, .loc 1 0 (([a1] : List Int).length)), (11, .ptr 2 0 0)], ai [(0, .var [cO r8]), (1, .lst false none (List.map (D.int .i64) ([a1] : List Int))), (2, .var [vi a1])], 3⟩ ?_ ?_
     · refine q3 ?_; exact nR [0, 1, 2]
     obtain ⟨q21, hl, h⟩ := ap h; obtain ⟨z19, z20⟩ := q21; refine bt ?_; refine tY (fun (qq : ((List Int) × Int)) => ⟨tab [(2, vi a2), (8, .d (eL none (eL none (D.int .i64)) r1)), (9, .ptr 0 0 0), (10, .loc 1 0 qq.1.length), (11, .ptr 2 0 0)], ai [(0, .var [cO r8]), (1, .lst false none (List.map (D.int .i64) qq.1)), (2, .var [vi qq.2])], 3⟩) 0 (fun (qq : ((List Int) × Int)) => ⟨tab [(10, .loc 0 0 qq.1.length)], ai (il qq.1), 1⟩) hl ?_ ?_
     · rintro ⟨l11, i12⟩ xr13 h; refine aA ?_; refine aj ?_; refine q3 ?_; refine nI ?_; by_cases hc14 : (i12 != a2) = true
       · replace h := aU hc14 h; refine aT rfl hc14 ?_; refine aX ?_; refine aA ?_; refine bt ?_; obtain ⟨x15, hx15, h⟩ := ap h; obtain ⟨r16, hr16, h⟩ := ap h; refine aM ⟨tab [(2, vi a2), (8, .d (eL none (eL none (D.int .i64)) r1)), (9, .ptr 0 0 0), (10, .loc 1 0 l11.length), (11, .ptr 2 0 0), (12, vi r16)], ai [(0, .var [cO r8]), (1, .lst false none (List.map (D.int .i64) l11)), (2, .var [vi i12])], 3⟩ ?_ ?_
         · refine q2 ?_; refine step (bP (xs := r1) (e := (eL none (D.int .i64))) hx15 rfl rfl) ?_; refine q2 ?_; refine md (v := vi r16) (σ' := _) (n' := _) (zJ (Ez ⟨119, [.cptr none (eL none (D.int .i64) r8) 0, .cptr none (.int .i64 i12) 0], rfl, fun _ _ h => Ey h⟩ hr16) rfl (eH.c (.d _) (eH.c (zR (eH.c (.var1 rfl (.d _) rfl) (eH.c (.var1 rfl (.d _) rfl) eH.nil0))) eH.nil0))) (Nat.le_refl _) ?_; refine qq ?_; exact nR [0, 1, 2]
         obtain ⟨x17, hx17, h⟩ := ap h; refine aM ⟨tab [(2, vi a2), (8, .d (eL none (eL none (D.int .i64)) r1)), (9, .ptr 0 0 0), (10, .loc 1 0 l11.length), (11, .ptr 2 0 0)], ai [(0, .var [cO r8]), (1, .lst false none (List.map (D.int .i64) l11)), (2, .var [vi x17])], 3⟩ ?_ ?_
         · refine q2 ?_; refine step (bP (xs := r1) (e := (eL none (D.int .i64))) hx15 rfl rfl) ?_; refine q2 ?_; refine step (bP (xs := x15) (e := (D.int .i64)) hx17 rfl rfl) ?_; refine q2 ?_; exact nR [0, 1, 2]
         obtain ⟨l18, hl18, h⟩ := ap h; refine dP ⟨tab [(2, vi a2), (8, .d (eL none (eL none (D.int .i64)) r1)), (9, .ptr 0 0 0), (10, .loc 1 0 l18.length), (11, .ptr 2 0 0)], ai [(0, .var [cO r8]), (1, .lst false none (List.map (D.int .i64) l18)), (2, .var [vi x17])], 3⟩ ?_ ?_
         · refine q3 ?_; refine step (eR (xs := l11) (ys := ([x17] : List Int)) (e := (D.int .i64)) hl18 rfl rfl rfl (fk (xs := ([x17] : List Int)) (e := (D.int .i64)) rfl)) ?_; refine qq ?_; exact nR [0, 3, 2]
         refine aM ⟨tab [(2, vi a2), (8, .d (eL none (eL none (D.int .i64)) r1)), (9, .ptr 0 0 0), (10, .loc 1 0 l18.length), (56, vi x17)], ai [(0, .var [cO r8]), (1, .lst false none (List.map (D.int .i64) l18))], 2⟩ ?_ ?_
         · refine qq ?_; exact nR [0, 1]
         cases sj h; refine bZ (And.intro rfl rfl) ?_; refine q2 ?_; exact nR [0, 1, 2]
       · replace h := aV hc14 h; refine aS rfl hc14 ?_; cases sj h; refine dV (s0 := ⟨tab [(10, .loc 0 0 l11.length)], ai (il l11), 1⟩) (nr [1]) ?_; refine b8 ?_; exact ⟨rfl, rfl⟩
     refine aM ⟨tab [(6, .loc 0 0 z19.length), (7, vb true)], ai (il z19), 1⟩ ?_ ?_
     · refine q3 ?_; exact nR [0]
     cases sj h; refine aY ?_; exact cq (.inr rfl) (aP rfl (aP rfl rfl)) (RV.loc (xs := z19) (e := (D.int .i64)) rfl rfl (RV.d trivial))
theorem w5 {a0 : api_Topo} {a1 : Int} {a2 : Int} {r : ((List Int) × Bool)} (h : km a0 a1 a2 = some r) : PCall Try.prog 86 [eapi_Topo a0, .int .i64 a1, .int .i64 a2] (.tup [eL none (D.int .i64) r.1, .bool r.2]) := by
 refine PCall.inW CL ?_; refine aj ?_; refine q3 ?_; refine nI ?_; obtain ⟨x1, hx1, h⟩ := ap h; obtain ⟨r2, hr2, h⟩ := ap h; refine aj ?_; refine q4 ?_; refine step (bP (xs := a0.Hosts) (e := eapi_Port) hx1 rfl rfl) ?_; refine q2 ?_; refine bN (aO (aO bq.nil')) (pk hr2) ?_; refine q4 ?_; refine qq ?_; refine nT [(2, vi a2), (3, aN a0), (8, vi r2.1), (9, vb r2.2)] ?_; obtain ⟨x3, hx3, h⟩ := ap h; obtain ⟨r4, hr4, h⟩ := ap h; refine aj ?_; refine q4 ?_; refine step (bP (xs := a0.Hosts) (e := eapi_Port) hx3 rfl rfl) ?_; refine q2 ?_; refine bN (aO (aO bq.nil')) (pk hr4) ?_; refine q4 ?_; refine qq ?_; refine nI ?_; refine aA ?_; refine aM ⟨tab [(3, aN a0), (8, vi r2.1), (10, vi r4.1), (39, vb ((!r2.2) || (!r4.2)))], ai [], 0⟩ ?_ ?_
 · refine q3 ?_; by_cases hg5 : (!r2.2) = true
   · (iterate 2 refine qX (!r2.2) (by rw [hg5]; decide) ?_); refine step (aW rfl hg5 rfl) ?_; exact aQ.nil' (nm [] ⟨.d _, .d _, .d _, .eq (by first | (simp [hg5]; done) | (simp_all; done) | grind), trivial⟩ trivial)
   · refine gq (bf hg5) ?_; refine gq (bf hg5) ?_; refine step (bp rfl hg5 rfl) ?_; exact aQ.nil' (nm [] ⟨.d _, .d _, .d _, .eq (by first | (simp [hg5]; done) | (simp_all; done) | grind), trivial⟩ trivial)
 by_cases hc6 : ((!r2.2) || (!r4.2)) = true
 · replace h := aU hc6 h; refine aT rfl hc6 ?_; refine aj ?_; refine q2 ?_; refine nI ?_; cases sj h; refine aY ?_; exact cq (.inr rfl) (aP rfl (aP rfl rfl)) (RV.d (RV.d trivial))
 · replace h := aV hc6 h; refine aS rfl hc6 ?_; refine aX ?_; obtain ⟨r7, hr7, h⟩ := ap h; refine aj ?_; refine q3 ?_; refine bN (aO (aO (aO bq.nil'))) (EA hr7) ?_; refine q4 ?_; refine nI ?_; cases sj h; refine aY ?_; exact cq (.inr rfl) (aP rfl (aP rfl rfl)) (RV.d (RV.d trivial))
theorem w6 {a0 : api_Topo} {a1 : bK} {r : Int} (h : gR a0 a1 = some r) : PCall Try.prog 58 [eapi_Topo a0, du a1] (.int .i64 r) := by
 refine PCall.inW CN ?_; refine aj ?_; refine q3 ?_; refine nO ?_; refine q2 ?_; refine nI ?_; refine aA ?_; obtain ⟨r1, hr1, h⟩ := ap h; obtain ⟨y5, hv, h⟩ := ap h; refine aM ⟨tab [(2, aN a0), (3, dZ a1), (29, vb y5)], ai [], 0⟩ ?_ ?_
 · refine q3 ?_; refine nN (r := .bool r1) rfl (aO bq.nil') (wY hr1) ?_; refine q2 ?_; by_cases hg2 : (!r1) = true
   · replace hv := aU hg2 hv; (iterate 5 refine qX (!r1) (by rw [hg2]; decide) ?_); refine step (aW rfl hg2 rfl) ?_; refine qq ?_; (iterate 5 refine qX true (by decide) ?_); refine step (aW rfl rfl rfl) ?_; cases sj hv; exact nR []
   · replace hv := aV hg2 hv; obtain ⟨r3, hr3, hv⟩ := ap hv; refine gq (bf hg2) ?_; refine gq (bf hg2) ?_; refine gq (bf hg2) ?_; refine qG _ (bf hg2) ?_; refine nN (r := .bool r3) rfl (aO bq.nil') (wY hr3) ?_; refine gq (bf hg2) ?_; refine step (bp rfl hg2 rfl) ?_; refine qq ?_; by_cases hg4 : (!r3) = true
     · replace hv := aU hg4 hv; (iterate 5 refine qX (!r3) (by rw [hg4]; decide) ?_); refine step (aW rfl hg4 rfl) ?_; cases sj hv; exact nR []
     · replace hv := aV hg4 hv; refine gq (bf hg4) ?_; refine gq (bf hg4) ?_; refine gq (bf hg4) ?_; refine gq (bf hg4) ?_; refine gq (bf hg4) ?_; refine step (bp rfl hg4 rfl) ?_; cases sj hv; exact nR []
 by_cases hc7 : y5 = true
 · replace h := aU hc7 h; refine aT rfl hc7 ?_; refine aj ?_; refine qq ?_; refine nI ?_; cases sj h; refine aY ?_; exact bH (.inr rfl) (aP rfl rfl) (RV.d trivial)
 · replace h := aV hc7 h; refine aS rfl hc7 ?_; refine aX ?_; refine aA ?_; refine aj ?_; refine q2 ?_; refine step (bx (xs := a1.Match) (e := cu) rfl) ?_; refine qq ?_; refine nT [(2, aN a0), (3, dZ a1), (31, fq a1.Match), (32, vi (a1.Match.length : Int)), (33, vi 0)] ?_; obtain ⟨q24, hl, h⟩ := ap h; refine bt ?_; refine dj (ce (a1.Match.length : Int)) (fun (i8 : Int) (qq : Unit) => ⟨tab [(2, aN a0), (3, dZ a1), (31, fq a1.Match), (32, vi (a1.Match.length : Int)), (33, vi i8)], ai [], 0⟩) 0 (fun (qq : Unit) => ⟨tab [(2, aN a0), (3, dZ a1)], ai [], 0⟩) bv cf (r := r) hl (by unfold bv; omega) ?_ ?_ ?_ ?_
   · rintro i8 ⟨⟩ xr13 hinv11 hgo10 h; have hc12 := dy hgo10; refine aj ?_; refine qq ?_; refine nI ?_; refine ck 32 rfl fun hB9 => ?_; refine aA ?_; refine aT rfl hc12 ?_; refine aX ?_; refine aA ?_; refine bt ?_; obtain ⟨x14, hx14, h⟩ := ap h; refine aM ⟨tab [(2, aN a0), (3, dZ a1), (6, vi i8), (7, .ptr 0 0 0), (31, fq a1.Match), (32, vi (a1.Match.length : Int)), (33, vi i8)], ai [(0, .var [vi x14.F, vh x14.N])], 1⟩ ?_ ?_
     · refine qq ?_; refine step (bP (xs := a1.Match) (e := cu) hx14 rfl rfl) ?_; refine q4 ?_; exact nR [0]
     obtain ⟨y19, hv, h⟩ := ap h; refine aM ⟨tab [(2, aN a0), (3, dZ a1), (31, fq a1.Match), (32, vi (a1.Match.length : Int)), (33, vi i8), (61, vb y19)], ai [], 0⟩ ?_ ?_
     · refine q4 ?_; by_cases hg15 : decide (x14.F < 4) = true
       · replace hv := aU hg15 hv; (iterate 3 refine qX (decide (x14.F < 4)) (by rw [hg15]; decide) ?_); refine step (aW rfl hg15 rfl) ?_; refine qq ?_; (iterate 3 refine qX true (by decide) ?_); refine bE rfl ?_; refine bE rfl ?_; refine bE rfl ?_; refine bE rfl ?_; refine bE rfl ?_; refine bE rfl ?_; refine bE rfl ?_; refine bE rfl ?_; refine bE rfl ?_; refine bE rfl ?_; refine qX true (by decide) ?_; refine step (aW rfl rfl rfl) ?_; cases sj hv; exact nR []
       · replace hv := aV hg15 hv; refine gq (bf hg15) ?_; refine gq (bf hg15) ?_; refine gq (bf hg15) ?_; refine step (bp rfl hg15 rfl) ?_; refine qq ?_; by_cases hg16 : decide (x14.F > 7) = true
         · replace hv := aU hg16 hv; (iterate 3 refine qX (decide (x14.F > 7)) (by rw [hg16]; decide) ?_); refine bE rfl ?_; refine bE rfl ?_; refine bE rfl ?_; refine bE rfl ?_; refine bE rfl ?_; refine bE rfl ?_; refine bE rfl ?_; refine bE rfl ?_; refine bE rfl ?_; refine bE rfl ?_; refine qX (decide (x14.F > 7)) (by rw [hg16]; decide) ?_; refine step (aW rfl hg16 rfl) ?_; cases sj hv; exact nR []
         · replace hv := aV hg16 hv; refine gq (bf hg16) ?_; refine gq (bf hg16) ?_; refine gq (bf hg16) ?_; by_cases hg17 : decide (i8 > 0) = true
           · replace hv := aU hg17 hv; obtain ⟨x18, hx18, hv⟩ := ap hv; refine gq hg17 ?_; refine gq hg17 ?_; refine gq hg17 ?_; refine gq hg17 ?_; refine qG _ hg17 ?_; refine step (bP (xs := a1.Match) (e := cu) hx18 rfl rfl) ?_; refine gq hg17 ?_; refine gq hg17 ?_; refine gq hg17 ?_; refine gq hg17 ?_; refine gq hg17 ?_; refine qG _ (bf hg16) ?_; refine step (aW rfl hg17 rfl) ?_; refine step (bp rfl hg16 rfl) ?_; cases sj hv; exact nR []
           · replace hv := aV hg17 hv; (iterate 10 refine gX hg17 ?_); refine qG _ (bf hg16) ?_; refine step (bp rfl hg17 rfl) ?_; refine step (bp rfl hg16 rfl) ?_; cases sj hv; exact nR []
     by_cases hc21 : y19 = true
     · replace h := aU hc21 h; refine aT rfl hc21 ?_; refine aj ?_; refine qq ?_; refine nI ?_; obtain ⟨r22, kr22, hr⟩ := cF (o := some 1) (g := Br.ret) h; subst hr; have h := kr22; cases sj h; refine aY ?_; refine And.intro (fun hn => nomatch hn) ?_; intro hq; have hq := hq.symm; subst hq; exact bH (.inr rfl) (aP rfl rfl) (RV.d trivial)
     · replace h := aV hc21 h; refine aS rfl hc21 ?_; refine aX ?_; cases sj h; refine bZ (And.intro rfl rfl) ?_; refine step (ca (cb hinv11 hgo10 hB9) rfl rfl) ?_; refine qq ?_; exact nR []
   · rintro i8 ⟨⟩ hinv11 hgo10; have hc12 := dn hgo10; refine aj ?_; refine qq ?_; refine nI ?_; refine aA ?_; refine aS rfl hc12 ?_; refine b4 [(2, aN a0), (3, dZ a1)] ?_; refine b8 ?_; exact ⟨rfl, rfl⟩
   · intro r' hq; subst hq; exact bM h
   rintro ⟨⟩ rfl; refine aA ?_; obtain ⟨r22, hr22, h⟩ := ap h; refine aM ⟨tab [(9, vb r22.2)], ai [], 0⟩ ?_ ?_
   · refine q4 ?_; refine qq ?_; refine bN (aO (aO (aO bq.nil'))) (w5 hr22) ?_; refine q4 ?_; refine qq ?_; exact nR []
   refine aj ?_; refine q2 ?_; refine nI ?_; by_cases hc23 : (!r22.2) = true
   · replace h := aU hc23 h; refine aT rfl hc23 ?_; refine aj ?_; refine qq ?_; refine nI ?_; cases sj h; refine aY ?_; exact bH (.inr rfl) (aP rfl rfl) (RV.d trivial)
   · replace h := aV hc23 h; refine aS rfl hc23 ?_; refine aX ?_; refine aj ?_; refine qq ?_; refine nI ?_; cases sj h; refine aY ?_; exact bH (.inr rfl) (aP rfl rfl) (RV.d trivial)
theorem w7 {a0 : Int} {r : Int} (h : mA a0 = some r) : PCall Try.prog 88 [.int .i64 a0] (.int .u16 r) := by
 refine PCall.inW CO ?_; refine aj ?_; refine qq ?_; refine nO ?_; refine q4 ?_; refine nI ?_; cases sj h; refine aY ?_; exact bH (.inr rfl) (aP rfl rfl) (RV.d trivial)
theorem po {a0 : Int} {a1 : Int} {r : al} (h : jr a0 a1 = some r) : PCall Try.prog 87 [.int .i64 a0, .int .u16 a1] (cA r) := by
 refine PCall.inW CP ?_; refine aM ⟨tab [(0, vi a0), (1, vh a1), (4, .ptr 0 0 0)], ai [(0, fF)], 1⟩ ?_ ?_
 · refine qq ?_; exact nR [0]
 refine aM ⟨tab [(4, .ptr 0 0 0)], ai [(0, .var [vi 2, vi a0, vh a1, dw []])], 1⟩ ?_ ?_
 · refine q2 ?_; refine step (eI (ds := [.int .i64 2, .int .i64 a0, .int .u16 a1, eL (some 4) bw []]) rfl) ?_; refine qq ?_; exact nR [0]
 cases sj h; refine aY ?_; exact bH (.inr rfl) (fZ (ds := [.int .i64 2, .int .i64 a0, .int .u16 a1, eL (some 4) bw []]) rfl rfl (show 4 ≤ 4 by decide) rfl rfl) (RV.d trivial)
theorem w8 {a0 : bK} {a1 : (List al)} {r : (List al)} (h : mB a0 a1 = some r) : dp Try.prog 59 [wV a0, .loc 0 0 a1.length] (ai [(0, .lst true (some 4) (List.map bw a1))]) 1 (.loc 1 0 r.length) (ai [(1, .lst true (some 4) (List.map bw r))]) 2 := by
 refine dp.inW CS ?_; refine aj ?_; refine q2 ?_; refine nI ?_; obtain ⟨r1, hr1, h⟩ := ap h; obtain ⟨r2, hr2, h⟩ := ap h; obtain ⟨r3, hr3, h⟩ := ap h; obtain ⟨r4, hr4, h⟩ := ap h; obtain ⟨l5, hl5, h⟩ := ap h; refine wN ⟨tab [(2, dZ a0), (5, .loc 1 0 l5.length)], ai [(1, .lst true (some 4) (List.map bw l5))], 2⟩ ?_ ?_
 · refine bS [] [] (v := .loc 0 0 a1.length) rfl rfl rfl ?_; refine bS [] [] (v := dZ a0) rfl rfl rfl ?_; refine bS [] [] (v := vi a0.From) rfl rfl rfl ?_; refine m6 (r := .int .u16 r1) [] (aO bq.nil') (w7 hr1) rfl ?_; refine m6 (r := cA r2) [] (aO (aO bq.nil')) (po hr2) rfl ?_; refine bS [] [] (v := .d (.cptr (some 4) (du a0) 1)) rfl rfl rfl ?_; refine bS [] [] (v := vi a0.To) rfl rfl rfl ?_; refine m6 (r := .int .u16 r3) [] (aO bq.nil') (w7 hr3) rfl ?_; refine m6 (r := cA r4) [] (aO (aO bq.nil')) (po hr4) rfl ?_; refine bS [] [] (v := dw ([r2, r4] : List al)) (jn rfl (by simp [eL, eW])) rfl rfl ?_; refine bS [0] [0] (v := .loc 1 0 l5.length) (σ' := (aw (aw (ai [(0, .lst true (some 4) (List.map bw a1))]) 0 none) 1 (some (.lst true (some 4) (List.map bw l5))))) (n' := 2) (eR (xs := a1) (ys := ([r2, r4] : List al)) (e := bw) hl5 rfl rfl rfl (fk (xs := ([r2, r4] : List al)) (e := bw) rfl)) rfl rfl ?_; refine bS [] [] (v := .loc 1 0 l5.length) rfl rfl rfl ?_; exact cB.nil' ⟨by decide, nr [0, 1]⟩
 refine aA ?_; refine aj ?_; refine q2 ?_; refine step (bx (xs := a0.Match) (e := cu) rfl) ?_; refine qq ?_; refine nT [(5, .loc 1 0 l5.length), (20, fq a0.Match), (21, vi (a0.Match.length : Int)), (22, vi 0)] ?_; obtain ⟨z16, hl, h⟩ := ap h; refine bt ?_; refine eo (ce (a0.Match.length : Int)) (fun (i7 : Int) (qq : (List al)) => ⟨tab [(5, .loc 1 0 qq.length), (20, fq a0.Match), (21, vi (a0.Match.length : Int)), (22, vi i7)], ai [(1, .lst true (some 4) (List.map bw qq))], 2⟩) 0 (fun (qq : (List al)) => ⟨tab [(5, .loc 1 0 qq.length)], ai [(1, .lst true (some 4) (List.map bw qq))], 2⟩) bv cf hl (by unfold bv; omega) ?_ ?_ ?_
 · rintro i7 l6 xr12 hinv10 hgo9 h; have hc11 := dy hgo9; refine aj ?_; refine qq ?_; refine nI ?_; refine ck 21 rfl fun hB8 => ?_; refine aA ?_; refine aT rfl hc11 ?_; refine aX ?_; refine aA ?_; refine bt ?_; obtain ⟨x13, hx13, h⟩ := ap h; refine aM ⟨tab [(5, .loc 1 0 l6.length), (7, .ptr 2 0 0), (20, fq a0.Match), (21, vi (a0.Match.length : Int)), (22, vi i7)], ai [(1, .lst true (some 4) (List.map bw l6)), (2, .var [vi x13.F, vh x13.N])], 3⟩ ?_ ?_
   · refine step (bP (xs := a0.Match) (e := cu) hx13 rfl rfl) ?_; refine q3 ?_; exact nR [0, 1, 2]
   obtain ⟨r14, hr14, h⟩ := ap h; obtain ⟨l15, hl15, h⟩ := ap h; refine dP ⟨tab [(5, .loc 1 0 l15.length), (20, fq a0.Match), (21, vi (a0.Match.length : Int)), (22, vi i7)], ai [(1, .lst true (some 4) (List.map bw l15))], 2⟩ ?_ ?_
   · refine q4 ?_; refine qq ?_; refine bN (aO (aO bq.nil')) (po hr14) ?_; refine step (v := dw ([r14] : List al)) (jn rfl (by simp [eL, eW])) ?_; refine step (eR (xs := l6) (ys := ([r14] : List al)) (e := bw) hl15 rfl rfl rfl (fk (xs := ([r14] : List al)) (e := bw) rfl)) ?_; refine qq ?_; exact nR [0, 3]
   cases sj h; refine bZ (And.intro rfl rfl) ?_; refine step (ca (cb hinv10 hgo9 hB8) rfl rfl) ?_; refine qq ?_; exact nR [0, 1]
 · rintro i7 l6 hinv10 hgo9; have hc11 := dn hgo9; refine aj ?_; refine qq ?_; refine nI ?_; refine aA ?_; refine aS rfl hc11 ?_; refine b4 [(5, .loc 1 0 l6.length)] ?_; refine b8 ?_; exact ⟨rfl, rfl⟩
 refine aM ⟨tab [(4, .loc 1 0 z16.length)], ai [(1, .lst true (some 4) (List.map bw z16))], 2⟩ ?_ ?_
 · refine q2 ?_; exact nR [0, 1]
 cases sj h; refine aY ?_; exact ⟨.inr rfl, _, rfl, rfl, fW.sub ⟨rfl, trivial⟩, rfl⟩
theorem EB {a0 : api_Topo} {a1 : Int} {a2 : Int} {r : (Int × Bool)} (h : k9 a0 a1 a2 = some r) : PCall Try.prog 89 [eapi_Topo a0, .int .i64 a1, .int .i64 a2] (.tup [.int .u16 r.1, .bool r.2]) := by
 refine PCall.inW CU ?_; refine aj ?_; refine q3 ?_; refine nI ?_; refine aA ?_; refine aM ⟨tab [(1, vi a1), (2, vi a2), (3, aN a0), (36, vb ((decide (a1 < 0)) || ((decide (a1 ≥ (a0.Switches.length : Int))) || ((decide (a2 < 0)) || ((decide (a2 ≥ (a0.Switches.length : Int))) || (a1 == a2))))))], ai [], 0⟩ ?_ ?_
 · refine q3 ?_; by_cases hg1 : decide (a1 < 0) = true
   · (iterate 5 refine qX (decide (a1 < 0)) (by rw [hg1]; decide) ?_); refine step (aW rfl hg1 rfl) ?_; refine qq ?_; (iterate 2 refine qX true (by decide) ?_); refine step (aW rfl rfl rfl) ?_; refine qq ?_; (iterate 5 refine qX true (by decide) ?_); refine step (aW rfl rfl rfl) ?_; refine qq ?_; (iterate 3 refine qX true (by decide) ?_); refine step (aW rfl rfl rfl) ?_; exact aQ.nil' (nm [] ⟨.d _, .d _, .d _, .eq (by first | (simp [hg1]; done) | (simp_all; done) | grind), trivial⟩ trivial)
   · refine gq (bf hg1) ?_; refine gq (bf hg1) ?_; refine gq (bf hg1) ?_; refine qG _ (bf hg1) ?_; refine step (bx (xs := a0.Switches) (e := (D.int .u16)) rfl) ?_; refine gq (bf hg1) ?_; refine step (bp rfl hg1 rfl) ?_; refine qq ?_; by_cases hg2 : decide (a1 ≥ (a0.Switches.length : Int)) = true
     · (iterate 2 refine qX (decide (a1 ≥ (a0.Switches.length : Int))) (by rw [hg2]; decide) ?_); refine step (aW rfl hg2 rfl) ?_; refine qq ?_; (iterate 5 refine qX true (by decide) ?_); refine step (aW rfl rfl rfl) ?_; refine qq ?_; (iterate 3 refine qX true (by decide) ?_); refine step (aW rfl rfl rfl) ?_; exact aQ.nil' (nm [] ⟨.d _, .d _, .d _, .eq (by first | (simp [hg1, hg2]; done) | (simp_all; done) | grind), trivial⟩ trivial)
     · refine gq (bf hg2) ?_; refine gq (bf hg2) ?_; refine step (bp rfl hg2 rfl) ?_; refine qq ?_; by_cases hg3 : decide (a2 < 0) = true
       · (iterate 5 refine qX (decide (a2 < 0)) (by rw [hg3]; decide) ?_); refine step (aW rfl hg3 rfl) ?_; refine qq ?_; (iterate 3 refine qX true (by decide) ?_); refine step (aW rfl rfl rfl) ?_; exact aQ.nil' (nm [] ⟨.d _, .d _, .d _, .eq (by first | (simp [hg1, hg2, hg3]; done) | (simp_all; done) | grind), trivial⟩ trivial)
       · refine gq (bf hg3) ?_; refine gq (bf hg3) ?_; refine gq (bf hg3) ?_; refine qG _ (bf hg3) ?_; refine step (bx (xs := a0.Switches) (e := (D.int .u16)) rfl) ?_; refine gq (bf hg3) ?_; refine step (bp rfl hg3 rfl) ?_; refine qq ?_; by_cases hg4 : decide (a2 ≥ (a0.Switches.length : Int)) = true
         · (iterate 3 refine qX (decide (a2 ≥ (a0.Switches.length : Int))) (by rw [hg4]; decide) ?_); refine step (aW rfl hg4 rfl) ?_; exact aQ.nil' (nm [] ⟨.d _, .d _, .d _, .eq (by first | (simp [hg1, hg2, hg3, hg4]; done) | (simp_all; done) | grind), trivial⟩ trivial)
         · refine gq (bf hg4) ?_; refine gq (bf hg4) ?_; refine gq (bf hg4) ?_; refine step (bp rfl hg4 rfl) ?_; exact aQ.nil' (nm [] ⟨.d _, .d _, .d _, .eq (by first | (simp [hg1, hg2, hg3, hg4]; done) | (simp_all; done) | grind), trivial⟩ trivial)
 by_cases hc5 : ((decide (a1 < 0)) || ((decide (a1 ≥ (a0.Switches.length : Int))) || ((decide (a2 < 0)) || ((decide (a2 ≥ (a0.Switches.length : Int))) || (a1 == a2))))) = true
 · replace h := aU hc5 h; refine aT rfl hc5 ?_; refine aj ?_; refine q2 ?_; refine nI ?_; cases sj h; refine aY ?_; exact cq (.inr rfl) (aP rfl (aP rfl rfl)) (RV.d (RV.d trivial))
 · replace h := aV hc5 h; refine aS rfl hc5 ?_; refine aX ?_; obtain ⟨x6, hx6, h⟩ := ap h; obtain ⟨x7, hx7, h⟩ := ap h; refine aj ?_; refine q3 ?_; refine step (bP (xs := a0.Switches) (e := (D.int .u16)) hx6 rfl rfl) ?_; refine q4 ?_; refine step (bP (xs := a0.Switches) (e := (D.int .u16)) hx7 rfl rfl) ?_; refine q3 ?_; refine nI ?_; refine aA ?_; refine aj ?_; refine q2 ?_; refine step (bx (xs := a0.Links) (e := (eA2 eapi_Port)) rfl) ?_; refine qq ?_; refine nT [(8, vh x6), (9, vh x7), (48, dz a0.Links), (49, vi (a0.Links.length : Int)), (50, vi 0)] ?_; obtain ⟨q19, hl, h⟩ := ap h; refine bt ?_; refine dj (ce (a0.Links.length : Int)) (fun (i8 : Int) (qq : Unit) => ⟨tab [(8, vh x6), (9, vh x7), (48, dz a0.Links), (49, vi (a0.Links.length : Int)), (50, vi i8)], ai [], 0⟩) 0 (fun (qq : Unit) => ⟨tab [], ai [], 0⟩) bv cf (r := r) hl (by unfold bv; omega) ?_ ?_ ?_ ?_
   · rintro i8 ⟨⟩ xr13 hinv11 hgo10 h; have hc12 := dy hgo10; refine aj ?_; refine qq ?_; refine nI ?_; refine ck 49 rfl fun hB9 => ?_; refine aA ?_; refine aT rfl hc12 ?_; refine aX ?_; refine aA ?_; refine bt ?_; obtain ⟨x14, hx14, h⟩ := ap h; refine aM ⟨tab [(8, vh x6), (9, vh x7), (11, .ptr 0 0 0), (48, dz a0.Links), (49, vi (a0.Links.length : Int)), (50, vi i8)], ai [(0, .var [vh x14.a0.Sw, vh x14.a0.Pt, vh x14.a1.Sw, vh x14.a1.Pt])], 1⟩ ?_ ?_
     · refine step (bP (xs := a0.Links) (e := (eA2 eapi_Port)) hx14 rfl rfl) ?_; refine q3 ?_; exact nR [0]
     refine bt ?_; refine aM ⟨tab [(8, vh x6), (9, vh x7), (11, .ptr 0 0 0), (48, dz a0.Links), (49, vi (a0.Links.length : Int)), (50, vi i8), (54, vb ((x14.a0.Sw == x6) && (x14.a1.Sw == x7)))], ai [(0, .var [vh x14.a0.Sw, vh x14.a0.Pt, vh x14.a1.Sw, vh x14.a1.Pt])], 1⟩ ?_ ?_
     · refine q4 ?_; refine q2 ?_; by_cases hg15 : (x14.a0.Sw == x6) = true
       · refine gq hg15 ?_; refine gq hg15 ?_; refine gq hg15 ?_; refine gq hg15 ?_; refine gq hg15 ?_; refine step (aW rfl hg15 rfl) ?_; refine qq ?_; exact aQ.nil' (nm [0] ⟨.d _, .d _, .pt 0, .d _, .d _, .d _, .eq (by first | (simp [hg15]; done) | (simp_all; done) | grind), trivial⟩ ⟨⟨show 0 < 1 by decide, _, rfl, .vars ⟨.d _, .d _, .d _, .d _, trivial⟩⟩, trivial⟩)
       · (iterate 5 refine gX hg15 ?_); refine step (bp rfl hg15 rfl) ?_; refine qq ?_; exact aQ.nil' (nm [0] ⟨.d _, .d _, .pt 0, .d _, .d _, .d _, .eq (by first | (simp [hg15]; done) | (simp_all; done) | grind), trivial⟩ ⟨⟨show 0 < 1 by decide, _, rfl, .vars ⟨.d _, .d _, .d _, .d _, trivial⟩⟩, trivial⟩)
     by_cases hc16 : ((x14.a0.Sw == x6) && (x14.a1.Sw == x7)) = true
     · replace h := aU hc16 h; refine aT rfl hc16 ?_; refine aM ⟨tab [(6, vh x14.a0.Pt), (7, vb true)], ai [], 0⟩ ?_ ?_
       · refine q4 ?_; refine qq ?_; exact nR []
       obtain ⟨r17, kr17, hr⟩ := cF (o := some (x14.a0.Pt, true)) (g := Br.ret) h; subst hr; have h := kr17; cases sj h; refine aY ?_; refine And.intro (fun hn => nomatch hn) ?_; intro hq; have hq := hq.symm; subst hq; exact cq (.inr rfl) (aP rfl (aP rfl rfl)) (RV.d (RV.d trivial))
     · replace h := aV hc16 h; refine aS rfl hc16 ?_; refine aM ⟨tab [(8, vh x6), (9, vh x7), (11, .ptr 0 0 0), (48, dz a0.Links), (49, vi (a0.Links.length : Int)), (50, vi i8), (70, vb ((x14.a1.Sw == x6) && (x14.a0.Sw == x7)))], ai [(0, .var [vh x14.a0.Sw, vh x14.a0.Pt, vh x14.a1.Sw, vh x14.a1.Pt])], 1⟩ ?_ ?_
       · refine q4 ?_; refine q2 ?_; by_cases hg17 : (x14.a1.Sw == x6) = true
         · refine gq hg17 ?_; refine gq hg17 ?_; refine gq hg17 ?_; refine gq hg17 ?_; refine gq hg17 ?_; refine step (aW rfl hg17 rfl) ?_; refine qq ?_; exact aQ.nil' (nm [0] ⟨.d _, .d _, .pt 0, .d _, .d _, .d _, .eq (by first | (simp [hg17]; done) | (simp_all; done) | grind), trivial⟩ ⟨⟨show 0 < 1 by decide, _, rfl, .vars ⟨.d _, .d _, .d _, .d _, trivial⟩⟩, trivial⟩)
         · (iterate 5 refine gX hg17 ?_); refine step (bp rfl hg17 rfl) ?_; refine qq ?_; exact aQ.nil' (nm [0] ⟨.d _, .d _, .pt 0, .d _, .d _, .d _, .eq (by first | (simp [hg17]; done) | (simp_all; done) | grind), trivial⟩ ⟨⟨show 0 < 1 by decide, _, rfl, .vars ⟨.d _, .d _, .d _, .d _, trivial⟩⟩, trivial⟩)
       by_cases hc18 : ((x14.a1.Sw == x6) && (x14.a0.Sw == x7)) = true
       · replace h := aU hc18 h; refine aT rfl hc18 ?_; refine aM ⟨tab [(6, vh x14.a1.Pt), (7, vb true)], ai [], 0⟩ ?_ ?_
         · refine q4 ?_; refine qq ?_; exact nR []
         obtain ⟨r19, kr19, hr⟩ := cF (o := some (x14.a1.Pt, true)) (g := Br.ret) h; subst hr; have h := kr19; cases sj h; refine aY ?_; refine And.intro (fun hn => nomatch hn) ?_; intro hq; have hq := hq.symm; subst hq; exact cq (.inr rfl) (aP rfl (aP rfl rfl)) (RV.d (RV.d trivial))
       · replace h := aV hc18 h; refine aS rfl hc18 ?_; refine aX ?_; cases sj h; refine bZ (And.intro rfl rfl) ?_; refine step (ca (cb hinv11 hgo10 hB9) rfl rfl) ?_; refine qq ?_; exact nR []
   · rintro i8 ⟨⟩ hinv11 hgo10; have hc12 := dn hgo10; refine aj ?_; refine qq ?_; refine nI ?_; refine aA ?_; refine aS rfl hc12 ?_; refine b4 [] ?_; refine b8 ?_; exact ⟨rfl, rfl⟩
   · intro r' hq; subst hq; exact bM h
   rintro ⟨⟩ rfl; refine aM ⟨tab [(6, vh 0), (7, vb false)], ai [], 0⟩ ?_ ?_
   · refine q2 ?_; exact nR []
   cases sj h; refine aY ?_; exact cq (.inr rfl) (aP rfl (aP rfl rfl)) (RV.d (RV.d trivial))
theorem EC {a0 : api_Topo} {a1 : bK} {r : (List al)} (h : oh a0 a1 = some r) : PCall Try.prog 60 [eapi_Topo a0, du a1] (eL (some 4) bw r) := by
 refine PCall.inW CW ?_; refine aj ?_; refine q3 ?_; refine nI ?_; obtain ⟨r1, hr1, h⟩ := ap h; refine aj ?_; refine q4 ?_; refine qq ?_; refine bN (aO (aO (aO bq.nil'))) (w5 hr1) ?_; refine q4 ?_; refine qq ?_; refine nO ?_; refine qq ?_; refine nT [(2, aN a0), (3, dZ a1), (5, cO r1.1), (7, .d (.nils))] ?_; refine aA ?_; refine aj ?_; refine qq ?_; refine step (bx (xs := r1.1) (e := (D.int .i64)) rfl) ?_; refine qq ?_; refine nI ?_; obtain ⟨z21, hl, h⟩ := ap h; refine dV (s0 := ⟨tab [(2, aN a0), (3, dZ a1), (5, cO r1.1), (7, .loc 0 0 (([] : List al).length)), (21, cO r1.1), (22, vi (r1.1.length : Int)), (23, vi 0)], ai (iI ([] : List al)), 1⟩) (bW.trans (s2 := ⟨tab [(2, aN a0), (3, dZ a1), (5, cO r1.1), (7, .loc 0 0 (([] : List al).length)), (21, cO r1.1), (22, vi (r1.1.length : Int)), (23, vi 0)], ai (iI ([] : List al)), 1⟩) (jo 7 false (some 4) rfl) (nr [0])) ?_; refine bt ?_; refine eo (ce (r1.1.length : Int)) (fun (i3 : Int) (qq : (List al)) => ⟨tab [(2, aN a0), (3, dZ a1), (5, cO r1.1), (7, .loc 0 0 qq.length), (21, cO r1.1), (22, vi (r1.1.length : Int)), (23, vi i3)], ai (iI qq), 1⟩) 0 (fun (qq : (List al)) => ⟨tab [(7, .loc 0 0 qq.length)], ai (iI qq), 1⟩) bv cf hl (by unfold bv; omega) ?_ ?_ ?_
 · rintro i3 l2 xr8 hinv6 hgo5 h; have hc7 := dy hgo5; refine aj ?_; refine qq ?_; refine nI ?_; refine ck 22 rfl fun hB4 => ?_; refine aA ?_; refine aT rfl hc7 ?_; refine aX ?_; refine aA ?_; refine bt ?_; obtain ⟨x9, hx9, h⟩ := ap h; refine aj ?_; refine qq ?_; refine step (bP (xs := r1.1) (e := (D.int .i64)) hx9 rfl rfl) ?_; refine q3 ?_; refine nI ?_; obtain ⟨x10, hx10, h⟩ := ap h; refine aj ?_; refine q4 ?_; refine step (bP (xs := a0.Hosts) (e := eapi_Port) hx10 rfl rfl) ?_; refine q3 ?_; refine nI ?_; obtain ⟨y14, hv, h⟩ := ap h; refine gg ⟨tab [(2, aN a0), (3, dZ a1), (5, cO r1.1), (7, .loc 0 0 l2.length), (9, vi x9), (10, vh y14), (21, cO r1.1), (22, vi (r1.1.length : Int)), (23, vi i3)], ai (iI l2), 1⟩ ?_ ?_
   · replace h := hv; refine aj ?_; refine qq ?_; refine step (ca (cb hinv6 hgo5 hB4) rfl rfl) ?_; refine qq ?_; refine step (bx (xs := r1.1) (e := (D.int .i64)) rfl) ?_; refine qq ?_; refine nI ?_; by_cases hc11 : decide ((i3 + 1) < (r1.1.length : Int)) = true
     · replace h := aU hc11 h; refine aT rfl hc11 ?_; obtain ⟨x12, hx12, h⟩ := ap h; obtain ⟨r13, hr13, h⟩ := ap h; cases sj h; refine bZ (And.intro rfl rfl) ?_; refine q4 ?_; refine step (ca (cb hinv6 hgo5 hB4) rfl rfl) ?_; refine step (bP (xs := r1.1) (e := (D.int .i64)) hx12 rfl rfl) ?_; refine qq ?_; refine bN (aO (aO (aO bq.nil'))) (EB hr13) ?_; refine q4 ?_; exact nR [0]
     · replace h := aV hc11 h; refine aS rfl hc11 ?_; cases sj h; refine b4 [(2, aN a0), (3, dZ a1), (5, cO r1.1), (7, .loc 0 0 l2.length), (9, vi x9), (10, vh x10.Pt), (21, cO r1.1), (22, vi (r1.1.length : Int)), (23, vi i3)] ?_; refine aX ?_; exact ⟨rfl, rfl⟩
   obtain ⟨x16, hx16, h⟩ := ap h; obtain ⟨r17, hr17, h⟩ := ap h; obtain ⟨r18, hr18, h⟩ := ap h; obtain ⟨l19, hl19, h⟩ := ap h; refine wN ⟨tab [(2, aN a0), (3, dZ a1), (5, cO r1.1), (7, .loc 0 0 l2.length), (11, .loc 1 0 l19.length), (21, cO r1.1), (22, vi (r1.1.length : Int)), (23, vi i3)], ai [(0, .lst false (some 4) (List.map bw l2)), (1, .lst false (some 4) (List.map bw l19))], 2⟩ ?_ ?_
   · refine bS [] [] (v := wV a1) rfl rfl rfl ?_; refine bS [] [] (v := aN a0) rfl rfl rfl ?_; refine bS [] [] (v := cT a0.Switches) rfl rfl rfl ?_; refine bS [] [] (v := vi x9) rfl rfl rfl ?_; refine bS [] [] (v := .d (.cptr none (.int .u16 x16) 0)) (bP (xs := a0.Switches) (e := (D.int .u16)) hx16 rfl rfl) rfl rfl ?_; refine bS [] [] (v := vh x16) rfl rfl rfl ?_; refine m6 (r := cA r17) [] (aO (aO bq.nil')) (po hr17) rfl ?_; refine bS [] [] (v := .loc 1 0 (([r17] : List al).length)) (σ' := (aw (ai (iI l2)) 1 (some (.lst true (some 4) (List.map bw ([r17] : List al)))))) (n' := 2) (zE rfl (by simp only [List.map, eW])) rfl rfl ?_; refine BW (σ' := (aw (aw (aw (ai (iI l2)) 1 (some (.lst true (some 4) (List.map bw ([r17] : List al))))) 1 none) 2 (some (.lst false (some 4) (List.map bw r18))))) (R := [1]) (W := [1]) (m := 3) (BZ [1] (dp.frz (w8 hr18)) (by decide) (by decide) (by decide) (nZ (show 1 < 2 by decide) n5) [(1, .lst true (some 4) (List.map bw ([r17] : List al)))] rfl (dC.c (.d _) (dC.c (.lc 0) dC.nil0)) (SN.c (show 0 < 1 by decide) rfl (.lst _ _ _) SN.nil0) (.loc 2 0 r18.length) rfl [(1, none), (2, some (.lst false (some 4) (List.map bw r18)))] [1] 3 rfl rfl rfl rfl (fun _ => rfl)) ⟨rfl, trivial⟩ rfl rfl ?_; refine bS [] [] (v := vh y14) rfl rfl rfl ?_; refine bS [] [] (v := vs1 (al.mk 5 1 y14 [])) (eI (ds := [.int .i64 5, .int .i64 1, .int .u16 y14, eL (some 4) bw []]) rfl) rfl rfl ?_; refine bS [] [] (v := dw ([(al.mk 5 1 y14 [])] : List al)) (jn rfl (by simp [eL, eW])) rfl rfl ?_; refine bS [2] [2] (v := .loc 3 0 l19.length) (σ' := (aw (aw (aw (aw (aw (ai (iI l2)) 1 (some (.lst true (some 4) (List.map bw ([r17] : List al))))) 1 none) 2 (some (.lst false (some 4) (List.map bw r18)))) 2 none) 3 (some (.lst false (some 4) (List.map bw l19))))) (n' := 4) (eR (xs := r18) (ys := ([(al.mk 5 1 y14 [])] : List al)) (e := bw) hl19 rfl rfl rfl (fk (xs := ([(al.mk 5 1 y14 [])] : List al)) (e := bw) rfl)) rfl rfl ?_; refine bS [] [] (v := .loc 3 0 l19.length) rfl rfl rfl ?_; exact cB.nil' ⟨by decide, nr [0, 3]⟩
   obtain ⟨l20, hl20, h⟩ := ap h; refine dP ⟨tab [(2, aN a0), (3, dZ a1), (5, cO r1.1), (7, .loc 0 0 l20.length), (21, cO r1.1), (22, vi (r1.1.length : Int)), (23, vi i3)], ai (iI l20), 1⟩ ?_ ?_
   · refine q3 ?_; refine step (uf (ds := List.map bw ([(al.mk 6 0 0 l19)] : List al)) (gQ (f := fun x => dH _ (aF _ x)) (ue (gQ jp (gQ jp (gQ jp (gQ (Cs (xs := l19) rfl rfl) nY))))) nY) rfl) ?_; refine step (eR (xs := l2) (ys := ([(al.mk 6 0 0 l19)] : List al)) (e := bw) hl20 rfl rfl rfl (t6 (xs := ([(al.mk 6 0 0 l19)] : List al)) (e := bw) rfl rfl rfl)) ?_; refine qq ?_; exact nR [3]
   cases sj h; refine bZ (And.intro rfl rfl) ?_; refine step (ca (cb hinv6 hgo5 hB4) rfl rfl) ?_; refine qq ?_; exact nR [0]
 · rintro i3 l2 hinv6 hgo5; have hc7 := dn hgo5; refine aj ?_; refine qq ?_; refine nI ?_; refine aA ?_; refine aS rfl hc7 ?_; refine b4 [(7, .loc 0 0 l2.length)] ?_; refine b8 ?_; exact ⟨rfl, rfl⟩
 refine aM ⟨tab [(4, .loc 0 0 z21.length)], ai (iI z21), 1⟩ ?_ ?_
 · refine q2 ?_; exact nR [0]
 have hh := bM h; subst hh; refine aY ?_; exact bH (.inr rfl) (aP (v := .loc 0 0 z21.length) rfl rfl) (RV.loc (xs := z21) (e := bw) rfl rfl trivial)
theorem w9 {a0 : (List al)} {r : al} (h : mC a0 = some r) : PCall Try.prog 61 [eL (some 4) bw a0] (cA r) := by
 refine PCall.inW CX ?_; refine aM ⟨tab [(0, dw a0), (2, .ptr 0 0 0)], ai [(0, fF)], 1⟩ ?_ ?_
 · refine qq ?_; exact nR [0]
 refine aA ?_; refine aj ?_; refine qq ?_; refine step (bx (xs := a0) (e := bw) rfl) ?_; refine nT [(0, dw a0), (2, .ptr 0 0 0), (4, vi (a0.length : Int))] ?_; refine bt ?_; refine aj ?_; refine q2 ?_; refine nI ?_; by_cases hc1 : ((a0.length : Int) == 0) = true
 · replace h := aU hc1 h; refine aT rfl hc1 ?_; refine aM ⟨tab [(2, .ptr 0 0 0)], ai [(0, fF)], 1⟩ ?_ ?_
   · refine step (eI (ds := [.int .i64 0, .int .i64 0, .int .u16 0, eL (some 4) bw []]) rfl) ?_; refine qq ?_; exact nR [0]
   cases sj h; refine aY ?_; exact bH (.inr rfl) (fZ (ds := [.int .i64 0, .int .i64 0, .int .u16 0, eL (some 4) bw []]) rfl rfl (show 4 ≤ 4 by decide) rfl rfl) (RV.d trivial)
 · replace h := aV hc1 h; refine aS rfl hc1 ?_; refine aj ?_; refine q2 ?_; refine nI ?_; by_cases hc2 : ((a0.length : Int) == 1) = true
   · replace h := aU hc2 h; refine aT rfl hc2 ?_; obtain ⟨x3, hx3, h⟩ := ap h; refine aM ⟨tab [(2, .ptr 0 0 0)], ai [(0, jM x3)], 1⟩ ?_ ?_
     · refine qq ?_; refine step (gC (xs := a0) (e := bw) hx3 rfl rfl (eW _)) ?_; refine q2 ?_; exact nR [0]
     have hh := bM h; subst hh; refine aY ?_; exact bH (.inr rfl) (fZ (ds := [.int .i64 x3.Op, .int .i64 x3.F, .int .u16 x3.N, eL (some 4) bw x3.Kids]) rfl rfl (show 4 ≤ 4 by decide) rfl rfl) (RV.d trivial)
   · replace h := aV hc2 h; refine aS rfl hc2 ?_; refine aX ?_; refine aM ⟨tab [(2, .ptr 0 0 0)], ai [(0, .var [vi 7, vi 0, vh 0, dw a0])], 1⟩ ?_ ?_
     · refine qq ?_; refine step (eI (ds := [.int .i64 7, .int .i64 0, .int .u16 0, eL (some 4) bw a0]) rfl) ?_; refine qq ?_; exact nR [0]
     cases sj h; refine aY ?_; exact bH (.inr rfl) (fZ (ds := [.int .i64 7, .int .i64 0, .int .u16 0, eL (some 4) bw a0]) rfl rfl (show 4 ≤ 4 by decide) rfl rfl) (RV.d trivial)
theorem ED {self : al → Option Int} (hself : ∀ (a0 : al) (r : Int), self a0 = some r → PCall Try.prog 62 [cA a0] (.int .i64 r)) {a0 : al} {r : Int} (h : mD self a0 = some r) : PCall Try.prog 62 [cA a0] (.int .i64 r) := by
 refine PCall.inW CZ ?_; refine aj ?_; refine q2 ?_; refine nO ?_; refine qq ?_; refine nI ?_; refine aA ?_; refine aj ?_; refine q2 ?_; refine step (bx (xs := a0.Kids) (e := bw) rfl) ?_; refine qq ?_; refine nT [(3, vi 1), (7, dw a0.Kids), (8, vi (a0.Kids.length : Int)), (9, vi 0)] ?_; obtain ⟨z10, hl, h⟩ := ap h; refine bt ?_; refine eo (ce (a0.Kids.length : Int)) (fun (i2 : Int) (qq : Int) => ⟨tab [(3, vi qq), (7, dw a0.Kids), (8, vi (a0.Kids.length : Int)), (9, vi i2)], ai [], 0⟩) 0 (fun (qq : Int) => ⟨tab [(3, vi qq)], ai [], 0⟩) bv cf hl (by unfold bv; omega) ?_ ?_ ?_
 · rintro i2 i1 xr7 hinv5 hgo4 h; have hc6 := dy hgo4; refine aj ?_; refine qq ?_; refine nI ?_; refine ck 8 rfl fun hB3 => ?_; refine aA ?_; refine aT rfl hc6 ?_; refine aX ?_; refine aA ?_; refine bt ?_; obtain ⟨x8, hx8, h⟩ := ap h; refine aM ⟨tab [(3, vi i1), (5, .ptr 0 0 0), (7, dw a0.Kids), (8, vi (a0.Kids.length : Int)), (9, vi i2)], ai [(0, jM x8)], 1⟩ ?_ ?_
   · refine step (gC (xs := a0.Kids) (e := bw) hx8 rfl rfl (eW _)) ?_; refine q3 ?_; exact nR [0]
   obtain ⟨r9, hr9, h⟩ := ap h; refine dP ⟨tab [(3, vi (IntKind.i64.wrap (i1 + r9))), (7, dw a0.Kids), (8, vi (a0.Kids.length : Int)), (9, vi i2)], ai [], 0⟩ ?_ ?_
   · refine qq ?_; refine step (dS (ds := [.int .i64 x8.Op, .int .i64 x8.F, .int .u16 x8.N, eL (some 4) bw x8.Kids]) rfl rfl (show 4 ≤ 4 by decide) rfl) ?_; refine bN (aO bq.nil') (hself _ _ hr9) ?_; refine q2 ?_; exact nR []
   cases sj h; refine bZ (And.intro rfl rfl) ?_; refine step (ca (cb hinv5 hgo4 hB3) rfl rfl) ?_; refine qq ?_; exact nR []
 · rintro i2 i1 hinv5 hgo4; have hc6 := dn hgo4; refine aj ?_; refine qq ?_; refine nI ?_; refine aA ?_; refine aS rfl hc6 ?_; refine b4 [(3, vi i1)] ?_; refine b8 ?_; exact ⟨rfl, rfl⟩
 refine aM ⟨tab [(2, vi z10)], ai [], 0⟩ ?_ ?_
 · refine q2 ?_; exact nR []
 cases sj h; refine aY ?_; exact bH (.inr rfl) (aP rfl rfl) (RV.d trivial)
theorem xa : ∀ (k : Nat) (a0 : al) (r : Int), js k a0 = some r → PCall Try.prog 62 [cA a0] (.int .i64 r)
 | 0, _, _, h => by cases h
 | k + 1, _, _, h => ED (xa k) h
theorem EE {a0 : al} {r : Int} (h : qB a0 = some r) : PCall Try.prog 62 [cA a0] (.int .i64 r) := xa c9 _ _ h
theorem EF {self : al → Option Int} (hself : ∀ (a0 : al) (r : Int), self a0 = some r → PCall Try.prog 63 [cA a0] (.int .i64 r)) {a0 : al} {r : Int} (h : mE self a0 = some r) : PCall Try.prog 63 [cA a0] (.int .i64 r) := by
 refine PCall.inW C1 ?_; refine aj ?_; refine q2 ?_; refine nO ?_; refine qq ?_; refine nI ?_; refine aA ?_; refine aj ?_; refine q2 ?_; refine step (bx (xs := a0.Kids) (e := bw) rfl) ?_; refine qq ?_; refine nT [(3, vi 0), (7, dw a0.Kids), (8, vi (a0.Kids.length : Int)), (9, vi 0)] ?_; obtain ⟨z10, hl, h⟩ := ap h; refine bt ?_; refine eo (ce (a0.Kids.length : Int)) (fun (i2 : Int) (qq : Int) => ⟨tab [(3, vi qq), (7, dw a0.Kids), (8, vi (a0.Kids.length : Int)), (9, vi i2)], ai [], 0⟩) 0 (fun (qq : Int) => ⟨tab [(3, vi qq)], ai [], 0⟩) bv cf hl (by unfold bv; omega) ?_ ?_ ?_
 · rintro i2 i1 xr7 hinv5 hgo4 h; have hc6 := dy hgo4; refine aj ?_; refine qq ?_; refine nI ?_; refine ck 8 rfl fun hB3 => ?_; refine aA ?_; refine aT rfl hc6 ?_; refine aX ?_; refine aA ?_; refine bt ?_; obtain ⟨x8, hx8, h⟩ := ap h; refine aM ⟨tab [(3, vi i1), (5, .ptr 0 0 0), (7, dw a0.Kids), (8, vi (a0.Kids.length : Int)), (9, vi i2)], ai [(0, jM x8)], 1⟩ ?_ ?_
   · refine step (gC (xs := a0.Kids) (e := bw) hx8 rfl rfl (eW _)) ?_; refine q3 ?_; exact nR [0]
   obtain ⟨r9, hr9, h⟩ := ap h; refine dP ⟨tab [(3, vi (fX i1 r9)), (7, dw a0.Kids), (8, vi (a0.Kids.length : Int)), (9, vi i2)], ai [], 0⟩ ?_ ?_
   · refine qq ?_; refine step (dS (ds := [.int .i64 x8.Op, .int .i64 x8.F, .int .u16 x8.N, eL (some 4) bw x8.Kids]) rfl rfl (show 4 ≤ 4 by decide) rfl) ?_; refine bN (aO bq.nil') (hself _ _ hr9) ?_; refine q2 ?_; exact nR []
   cases sj h; refine bZ (And.intro rfl rfl) ?_; refine step (ca (cb hinv5 hgo4 hB3) rfl rfl) ?_; refine qq ?_; exact nR []
 · rintro i2 i1 hinv5 hgo4; have hc6 := dn hgo4; refine aj ?_; refine qq ?_; refine nI ?_; refine aA ?_; refine aS rfl hc6 ?_; refine b4 [(3, vi i1)] ?_; refine b8 ?_; exact ⟨rfl, rfl⟩
 refine aM ⟨tab [(2, vi (IntKind.i64.wrap (z10 + 1)))], ai [], 0⟩ ?_ ?_
 · refine q3 ?_; exact nR []
 cases sj h; refine aY ?_; exact bH (.inr rfl) (aP rfl rfl) (RV.d trivial)
theorem xb : ∀ (k : Nat) (a0 : al) (r : Int), jt k a0 = some r → PCall Try.prog 63 [cA a0] (.int .i64 r)
 | 0, _, _, h => by cases h
 | k + 1, _, _, h => EF (xb k) h
theorem EG {a0 : al} {r : Int} (h : qD a0 = some r) : PCall Try.prog 63 [cA a0] (.int .i64 r) := xb c9 _ _ h
theorem xc {a0 : api_Topo} {a1 : (List bK)} {r : (al × Int)} (h : mF a0 a1 = some r) : PCall Try.prog 30 [eapi_Topo a0, eL (some 4) du a1] (.tup [cA r.1, .int .i64 r.2]) := by
 refine PCall.inW C3 ?_; refine aM ⟨tab [(1, de a1), (2, aN a0), (4, .ptr 0 0 0)], ai [(0, fF)], 1⟩ ?_ ?_
 · refine q3 ?_; exact nR [0]
 refine aA ?_; obtain ⟨r1, hr1, h⟩ := ap h; refine aj ?_; refine qq ?_; refine bN (aO bq.nil') (wX hr1) ?_; refine qq ?_; refine nO ?_; refine q2 ?_; refine nI ?_; by_cases hc2 : (r1 != 0) = true
 · replace h := aU hc2 h; refine aT rfl hc2 ?_; refine aM ⟨tab [(4, .ptr 0 0 0), (5, vi r1)], ai [(0, fF)], 1⟩ ?_ ?_
   · refine step (eI (ds := [.int .i64 0, .int .i64 0, .int .u16 0, eL (some 4) bw []]) rfl) ?_; refine q3 ?_; exact nR [0]
   cases sj h; refine aY ?_; exact cq (.inr rfl) (fZ (ds := [.int .i64 0, .int .i64 0, .int .u16 0, eL (some 4) bw []]) rfl rfl (show 4 ≤ 4 by decide) rfl (aP rfl rfl)) (RV.d (RV.d trivial))
 · replace h := aV hc2 h; refine aS rfl hc2 ?_; refine aX ?_; refine aj ?_; refine q2 ?_; refine nI ?_; refine aA ?_; refine aj ?_; refine qq ?_; refine step (bx (xs := a1) (e := du) rfl) ?_; refine qq ?_; refine nI ?_; obtain ⟨q35, hl, h⟩ := ap h; refine dV (s0 := ⟨tab [(2, aN a0), (4, .ptr 0 0 0), (7, .loc 1 0 (([] : List al).length)), (8, .loc 2 0 (([] : List al).length)), (19, de a1), (20, vi (a1.length : Int)), (21, vi 0)], ai [(0, fF), (1, .lst false (some 4) (List.map bw ([] : List al))), (2, .lst false (some 4) (List.map bw ([] : List al)))], 3⟩) (bW.trans (s2 := ⟨tab [(2, aN a0), (4, .ptr 0 0 0), (7, .loc 1 0 (([] : List al).length)), (8, .loc 2 0 (([] : List al).length)), (19, de a1), (20, vi (a1.length : Int)), (21, vi 0)], ai [(0, fF), (1, .lst false (some 4) (List.map bw ([] : List al))), (2, .lst false (some 4) (List.map bw ([] : List al)))], 3⟩) (jo 7 false (some 4) rfl) (bW.trans (s2 := ⟨tab [(2, aN a0), (4, .ptr 0 0 0), (7, .loc 1 0 (([] : List al).length)), (8, .loc 2 0 (([] : List al).length)), (19, de a1), (20, vi (a1.length : Int)), (21, vi 0)], ai [(0, fF), (1, .lst false (some 4) (List.map bw ([] : List al))), (2, .lst false (some 4) (List.map bw ([] : List al)))], 3⟩) (jo 8 false (some 4) rfl) (nr [0, 1, 2]))) ?_; refine bt ?_; refine dj (ce (a1.length : Int)) (fun (i5 : Int) (qq : ((List al) × (List al))) => ⟨tab [(2, aN a0), (4, .ptr 0 0 0), (7, .loc 1 0 qq.1.length), (8, .loc 2 0 qq.2.length), (19, de a1), (20, vi (a1.length : Int)), (21, vi i5)], ai (pj qq.1 qq.2), 3⟩) 0 (fun (qq : ((List al) × (List al))) => ⟨tab [(4, .ptr 0 0 0), (7, .loc 1 0 qq.1.length), (8, .loc 2 0 qq.2.length)], ai (pj qq.1 qq.2), 3⟩) bv cf (r := r) hl (by unfold bv; omega) ?_ ?_ ?_ ?_
   · rintro i5 ⟨l3, l4⟩ xr10 hinv8 hgo7 h; have hc9 := dy hgo7; refine aj ?_; refine qq ?_; refine nI ?_; refine ck 20 rfl fun hB6 => ?_; refine aA ?_; refine aT rfl hc9 ?_; refine aX ?_; obtain ⟨q21, hv, h⟩ := ap h; refine mh (fun (qq : ((List al) × (List al))) => ⟨tab [(2, aN a0), (4, .ptr 0 0 0), (7, .loc 1 0 qq.1.length), (8, .loc 2 0 qq.2.length), (19, de a1), (20, vi (a1.length : Int)), (21, vi i5)], ai (pj qq.1 qq.2), 3⟩) (xv := q21) (r := xr10) ?_ ?_ ?_
     · replace h := hv; refine bt ?_; obtain ⟨x11, hx11, h⟩ := ap h; refine aM ⟨tab [(2, aN a0), (4, .ptr 0 0 0), (7, .loc 1 0 l3.length), (8, .loc 2 0 l4.length), (10, .ptr 3 0 0), (19, de a1), (20, vi (a1.length : Int)), (21, vi i5)], ai [(0, fF), (1, .lst false (some 4) (List.map bw l3)), (2, .lst false (some 4) (List.map bw l4)), (3, kG x11)], 4⟩ ?_ ?_
       · refine step (bP (xs := a1) (e := du) hx11 rfl rfl) ?_; refine q3 ?_; exact nR [0, 1, 2, 3]
       refine aA ?_; obtain ⟨r12, hr12, h⟩ := ap h; refine aj ?_; refine qq ?_; refine step (dS (ds := [.int .i64 x11.From, .int .i64 x11.To, eL (some 2) cu x11.Match, .bool x11.Ban]) rfl rfl (show 4 ≤ 4 by decide) rfl) ?_; refine bN (aO (aO bq.nil')) (w6 hr12) ?_; refine qq ?_; refine nO ?_; refine q2 ?_; refine nI ?_; by_cases hc13 : (r12 != 0) = true
       · replace h := aU hc13 h; refine aT rfl hc13 ?_; refine aM ⟨tab [(4, .ptr 0 0 0), (5, vi r12)], ai [(0, fF)], 1⟩ ?_ ?_
         · refine step (eI (ds := [.int .i64 0, .int .i64 0, .int .u16 0, eL (some 4) bw []]) rfl) ?_; refine q3 ?_; exact nR [0]
         obtain ⟨r14, kr14, hr⟩ := cF (o := some (Br.ret ((al.mk 0 0 0 []), r12))) (g := Sum.inr) h; subst hr; have h := kr14; obtain ⟨r15, kr15, hr⟩ := cF (o := some ((al.mk 0 0 0 []), r12)) (g := Br.ret) h; subst hr; have h := kr15; cases sj h; refine aY ?_; refine And.intro (fun hn => nomatch hn) ?_; intro hq; have hq := hq.symm; subst hq; refine And.intro (fun hn => nomatch hn) ?_; intro hq; have hq := hq.symm; subst hq; exact cq (.inr rfl) (fZ (ds := [.int .i64 0, .int .i64 0, .int .u16 0, eL (some 4) bw []]) rfl rfl (show 4 ≤ 4 by decide) rfl (aP rfl rfl)) (RV.d (RV.d trivial))
       · replace h := aV hc13 h; refine aS rfl hc13 ?_; refine aX ?_; refine aA ?_; refine aj ?_; refine q2 ?_; refine nI ?_; by_cases hc14 : x11.Ban = true
         · replace h := aU hc14 h; refine aT rfl hc14 ?_; obtain ⟨r15, hr15, h⟩ := ap h; obtain ⟨l16, hl16, h⟩ := ap h; refine aM ⟨tab [(2, aN a0), (4, .ptr 0 0 0), (7, .loc 1 0 l3.length), (8, .loc 2 0 l16.length), (19, de a1), (20, vi (a1.length : Int)), (21, vi i5)], ai (pj l3 l16), 3⟩ ?_ ?_
           · refine qq ?_; refine step (dS (ds := [.int .i64 x11.From, .int .i64 x11.To, eL (some 2) cu x11.Match, .bool x11.Ban]) rfl rfl (show 4 ≤ 4 by decide) rfl) ?_; refine md (v := dw r15) (σ' := _) (n' := _) (B4 (Cq [du x11] (w8 hr15) (by simp)) (aO (aO bq.nil'))) (Nat.le_refl _) ?_; refine step (v := vs1 (al.mk 6 0 0 r15)) (eI (ds := [.int .i64 6, .int .i64 0, .int .u16 0, eL (some 4) bw r15]) rfl) ?_; refine step (v := dw ([(al.mk 6 0 0 r15)] : List al)) (jn rfl (by simp [eL, eW])) ?_; refine step (eR (xs := l4) (ys := ([(al.mk 6 0 0 r15)] : List al)) (e := bw) hl16 rfl rfl rfl (fk (xs := ([(al.mk 6 0 0 r15)] : List al)) (e := bw) rfl)) ?_; refine qq ?_; exact nR [0, 1, 4]
           cases sj h; refine b4 [(2, aN a0), (4, .ptr 0 0 0), (7, .loc 1 0 l3.length), (8, .loc 2 0 l16.length), (19, de a1), (20, vi (a1.length : Int)), (21, vi i5)] ?_; refine b8 ?_; exact ⟨rfl, rfl⟩
         · replace h := aV hc14 h; refine aS rfl hc14 ?_; refine aX ?_; obtain ⟨r17, hr17, h⟩ := ap h; obtain ⟨l18, hl18, h⟩ := ap h; cases sj h; refine bZ (And.intro rfl rfl) ?_; refine q2 ?_; refine step (dS (ds := [.int .i64 x11.From, .int .i64 x11.To, eL (some 2) cu x11.Match, .bool x11.Ban]) rfl rfl (show 4 ≤ 4 by decide) rfl) ?_; refine bN (aO (aO bq.nil')) (EC hr17) ?_; refine step (eR (xs := l3) (ys := r17) (e := bw) hl18 rfl rfl rfl (fk (xs := r17) (e := bw) rfl)) ?_; refine qq ?_; exact nR [0, 4, 2]
     · intro r' hq; subst hq; exact bM h
     rintro ⟨l19, l20⟩ rfl; cases sj h; refine bZ (And.intro rfl rfl) ?_; refine step (ca (cb hinv8 hgo7 hB6) rfl rfl) ?_; refine qq ?_; exact nR [0, 1, 2]
   · rintro i5 ⟨l3, l4⟩ hinv8 hgo7; have hc9 := dn hgo7; refine aj ?_; refine qq ?_; refine nI ?_; refine aA ?_; refine aS rfl hc9 ?_; refine b4 [(4, .ptr 0 0 0), (7, .loc 1 0 l3.length), (8, .loc 2 0 l4.length)] ?_; refine b8 ?_; exact ⟨rfl, rfl⟩
   · intro r' hq; subst hq; exact bM h
   rintro ⟨z22, z23⟩ rfl; obtain ⟨r24, hr24, h⟩ := ap h; refine aM ⟨tab [(4, .ptr 0 0 0), (8, .loc 1 0 z23.length), (12, .ptr 2 0 0)], ai [(0, fF), (1, .lst false (some 4) (List.map bw z23)), (2, jM r24)], 3⟩ ?_ ?_
   · refine qq ?_; refine bN (ud (xs := z22) (e := bw) rfl rfl bq.nil') (w9 hr24) ?_; refine q2 ?_; exact nR [0, 2, 3]
   obtain ⟨y27, hv, h⟩ := ap h; refine gg ⟨tab [(4, .ptr 0 0 0), (12, .ptr 1 0 0)], ai [(0, fF), (1, jM y27)], 2⟩ ?_ ?_
   · replace h := hv; refine aj ?_; refine q3 ?_; refine nI ?_; by_cases hc25 : decide ((z23.length : Int) > 0) = true
     · replace h := aU hc25 h; refine aT rfl hc25 ?_; obtain ⟨r26, hr26, h⟩ := ap h; cases sj h; refine dP ⟨tab [(4, .ptr 0 0 0), (12, .ptr 1 0 0)], ai [(0, fF), (1, .var [vi ((al.mk 6 0 0 ([(al.mk 4 0 0 ([r26] : List al)), r24] : List al)).Op), vi ((al.mk 6 0 0 ([(al.mk 4 0 0 ([r26] : List al)), r24] : List al)).F), vh ((al.mk 6 0 0 ([(al.mk 4 0 0 ([r26] : List al)), r24] : List al)).N), dw ((al.mk 6 0 0 ([(al.mk 4 0 0 ([r26] : List al)), r24] : List al)).Kids)])], 2⟩ ?_ ?_
       · refine qq ?_; refine bN (ud (xs := z23) (e := bw) rfl rfl bq.nil') (w9 hr26) ?_; refine step (v := dw ([r26] : List al)) (jn rfl (by simp [eL, eW])) ?_; refine step (v := vs1 (al.mk 4 0 0 ([r26] : List al))) (eI (ds := [.int .i64 4, .int .i64 0, .int .u16 0, eL (some 4) bw ([r26] : List al)]) rfl) ?_; refine step (v := vs1 r24) (dS (ds := [.int .i64 r24.Op, .int .i64 r24.F, .int .u16 r24.N, eL (some 4) bw r24.Kids]) rfl rfl (show 4 ≤ 4 by decide) rfl) ?_; refine step (v := dw ([(al.mk 4 0 0 ([r26] : List al)), r24] : List al)) (jn rfl (by simp [eL, eW])) ?_; refine step (eI (ds := [.int .i64 6, .int .i64 0, .int .u16 0, eL (some 4) bw ([(al.mk 4 0 0 ([r26] : List al)), r24] : List al)]) rfl) ?_; refine qq ?_; exact nR [0, 2]
       exact ⟨rfl, rfl⟩
     · replace h := aV hc25 h; refine aS rfl hc25 ?_; cases sj h; refine dV (s0 := ⟨tab [(4, .ptr 0 0 0), (12, .ptr 1 0 0)], ai [(0, fF), (1, jM r24)], 2⟩) (nr [0, 2]) ?_; refine aX ?_; exact ⟨rfl, rfl⟩
   refine aA ?_; obtain ⟨r29, hr29, h⟩ := ap h; obtain ⟨y32, hv, h⟩ := ap h; refine aM ⟨tab [(4, .ptr 0 0 0), (12, .ptr 1 0 0), (65, vb y32)], ai [(0, fF), (1, jM y27)], 2⟩ ?_ ?_
   · refine step (dS (ds := [.int .i64 y27.Op, .int .i64 y27.F, .int .u16 y27.N, eL (some 4) bw y27.Kids]) rfl rfl (show 4 ≤ 4 by decide) rfl) ?_; refine bN (aO bq.nil') (EE hr29) ?_; refine q2 ?_; by_cases hg30 : decide (r29 > 300) = true
     · replace hv := aU hg30 hv; (iterate 3 refine qX (decide (r29 > 300)) (by rw [hg30]; decide) ?_); refine step (aW rfl hg30 rfl) ?_; cases sj hv; exact nR [0, 1]
     · replace hv := aV hg30 hv; obtain ⟨r31, hr31, hv⟩ := ap hv; refine qG _ (bf hg30) ?_; refine step (dS (ds := [.int .i64 y27.Op, .int .i64 y27.F, .int .u16 y27.N, eL (some 4) bw y27.Kids]) rfl rfl (show 4 ≤ 4 by decide) rfl) ?_; refine qG _ (bf hg30) ?_; refine bN (aO bq.nil') (EG hr31) ?_; refine gq (bf hg30) ?_; refine step (bp rfl hg30 rfl) ?_; cases sj hv; exact nR [0, 1]
   by_cases hc34 : y32 = true
   · replace h := aU hc34 h; refine aT rfl hc34 ?_; refine aM ⟨tab [(4, .ptr 0 0 0), (5, vi 2)], ai [(0, fF)], 1⟩ ?_ ?_
     · refine step (eI (ds := [.int .i64 0, .int .i64 0, .int .u16 0, eL (some 4) bw []]) rfl) ?_; refine q2 ?_; exact nR [0]
     cases sj h; refine aY ?_; exact cq (.inr rfl) (fZ (ds := [.int .i64 0, .int .i64 0, .int .u16 0, eL (some 4) bw []]) rfl rfl (show 4 ≤ 4 by decide) rfl (aP rfl rfl)) (RV.d (RV.d trivial))
   · replace h := aV hc34 h; refine aS rfl hc34 ?_; refine aX ?_; refine aM ⟨tab [(4, .ptr 0 0 0), (5, vi 0)], ai [(0, jM y27)], 1⟩ ?_ ?_
     · refine step (dS (ds := [.int .i64 y27.Op, .int .i64 y27.F, .int .u16 y27.N, eL (some 4) bw y27.Kids]) rfl rfl (show 4 ≤ 4 by decide) rfl) ?_; refine q2 ?_; exact nR [0]
     cases sj h; refine aY ?_; exact cq (.inr rfl) (fZ (ds := [.int .i64 y27.Op, .int .i64 y27.F, .int .u16 y27.N, eL (some 4) bw y27.Kids]) rfl rfl (show 4 ≤ 4 by decide) rfl (aP rfl rfl)) (RV.d (RV.d trivial))
theorem EH {a0 : Int} {r : Bool} (h : ut a0 = some r) : PCall Try.prog 100 [.int .i64 a0] (.bool r) := by
 refine PCall.inW C4 ?_; refine aj ?_; refine qq ?_; refine nI ?_; refine aM ⟨tab [(2, vb ((decide (a0 ≥ 0)) && (decide (a0 < 8))))], ai [], 0⟩ ?_ ?_
 · refine q3 ?_; by_cases hg1 : decide (a0 ≥ 0) = true
   · refine gq hg1 ?_; refine gq hg1 ?_; refine step (aW rfl hg1 rfl) ?_; refine qq ?_; exact aQ.nil' (nm [] ⟨.eq (by first | (simp [hg1]; done) | (simp_all; done) | grind), trivial⟩ trivial)
   · (iterate 2 refine gX hg1 ?_); refine step (bp rfl hg1 rfl) ?_; refine qq ?_; exact aQ.nil' (nm [] ⟨.eq (by first | (simp [hg1]; done) | (simp_all; done) | grind), trivial⟩ trivial)
 cases sj h; refine aY ?_; exact bH (.inr rfl) (aP rfl rfl) (RV.d trivial)
theorem EI {a0 : c5} {a1 : (A8 Int)} {r : Bool} (h : uv a0 a1 = some r) : PCall Try.prog 106 [cu a0, .cptr (some 8) (aC (D.int .u16) a1) 0] (.bool r) := by
 refine PCall.inW C5 ?_; refine aj ?_; refine q2 ?_; refine nI ?_; obtain ⟨r1, hr1, h⟩ := ap h; obtain ⟨y4, hv, h⟩ := ap h; refine aM ⟨tab [(3, vb y4)], ai [], 0⟩ ?_ ?_
 · refine q2 ?_; refine bN (aO bq.nil') (EH hr1) ?_; refine q2 ?_; by_cases hg2 : (!r1) = true
   · replace hv := aU hg2 hv; (iterate 7 refine qX (!r1) (by rw [hg2]; decide) ?_); refine step (aW rfl hg2 rfl) ?_; refine qq ?_; cases sj hv; exact nR []
   · replace hv := aV hg2 hv; obtain ⟨x3, hx3, hv⟩ := ap hv; refine gq (bf hg2) ?_; refine gq (bf hg2) ?_; refine qG _ (bf hg2) ?_; refine step (k5 (xs := a1.l) hx3 rfl rfl rfl) ?_; refine qG _ (bf hg2) ?_; refine step (zL rfl (k4 (e := (D.int .u16)) (xs := a1.l) (pre := []) (post := []) hx3 rfl (by decide))) ?_; refine gq (bf hg2) ?_; refine gq (bf hg2) ?_; refine gq (bf hg2) ?_; refine step (bp rfl hg2 rfl) ?_; refine qq ?_; cases sj hv; exact nR []
 cases sj h; refine aY ?_; exact bH (.inr rfl) (aP rfl rfl) (RV.d trivial)
theorem EJ {a0 : (List c5)} {a1 : c5 → Option Bool} {g_a1 : D} (hf_a1 : qg Try.prog g_a1 cu D.bool a1) {r : Int} (h : uw a0 a1 = some r) : PCall Try.prog 120 [eL (some 2) cu a0, g_a1] (.int .i64 r) := by
 obtain ⟨fn_a1, cap_a1, rfl, hc_a1⟩ := hf_a1; refine PCall.inW C7 ?_; refine aj ?_; refine qq ?_; refine nI ?_; refine aA ?_; refine aj ?_; refine qq ?_; refine step (bx (xs := a0) (e := cu) rfl) ?_; refine qq ?_; refine nT [(0, fq a0), (1, .d (.func fn_a1 cap_a1)), (7, vi (a0.length : Int)), (8, vi 0)] ?_; obtain ⟨q10, hl, h⟩ := ap h; refine bt ?_; refine dj (ce (a0.length : Int)) (fun (i1 : Int) (qq : Unit) => ⟨tab [(0, fq a0), (1, .d (.func fn_a1 cap_a1)), (7, vi (a0.length : Int)), (8, vi i1)], ai [], 0⟩) 0 (fun (qq : Unit) => ⟨tab [], ai [], 0⟩) bv cf (r := r) hl (by unfold bv; omega) ?_ ?_ ?_ ?_
 · rintro i1 ⟨⟩ xr6 hinv4 hgo3 h; have hc5 := dy hgo3; refine aj ?_; refine qq ?_; refine nI ?_; refine ck 7 rfl fun hB2 => ?_; refine aA ?_; refine aT rfl hc5 ?_; refine aX ?_; refine aA ?_; refine bt ?_; refine aj ?_; refine q2 ?_; refine nI ?_; obtain ⟨x7, hx7, h⟩ := ap h; obtain ⟨x8, hx8, h⟩ := ap h; refine aj ?_; refine q3 ?_; refine step (bP (xs := a0) (e := cu) hx7 rfl rfl) ?_; refine qq ?_; refine nN (r := .bool x8) rfl (aO bq.nil') (hc_a1 _ _ hx8) ?_; refine nI ?_; by_cases hc9 : x8 = true
   · replace h := aU hc9 h; refine aT rfl hc9 ?_; refine aj ?_; refine q2 ?_; refine nI ?_; obtain ⟨r10, kr10, hr⟩ := cF (o := some i1) (g := Br.ret) h; subst hr; have h := kr10; cases sj h; refine aY ?_; refine And.intro (fun hn => nomatch hn) ?_; intro hq; have hq := hq.symm; subst hq; exact bH (.inr rfl) (aP rfl rfl) (RV.d trivial)
   · replace h := aV hc9 h; refine aS rfl hc9 ?_; refine aX ?_; cases sj h; refine bZ (And.intro rfl rfl) ?_; refine step (ca (cb hinv4 hgo3 hB2) rfl rfl) ?_; refine qq ?_; exact nR []
 · rintro i1 ⟨⟩ hinv4 hgo3; have hc5 := dn hgo3; refine aj ?_; refine qq ?_; refine nI ?_; refine aA ?_; refine aS rfl hc5 ?_; refine b4 [] ?_; refine b8 ?_; exact ⟨rfl, rfl⟩
 · intro r' hq; subst hq; exact bM h
 rintro ⟨⟩ rfl; refine aM ⟨tab [(4, vi (-1))], ai [], 0⟩ ?_ ?_
 · refine qq ?_; exact nR []
 cases sj h; refine aY ?_; exact bH (.inr rfl) (aP rfl rfl) (RV.d trivial)
theorem EK {a0 : (List c5)} {a1 : c5 → Option Bool} {g_a1 : D} (hf_a1 : qg Try.prog g_a1 cu D.bool a1) {r : Bool} (h : uz a0 a1 = some r) : PCall Try.prog 105 [eL (some 2) cu a0, g_a1] (.bool r) := by
 obtain ⟨fn_a1, cap_a1, rfl, hc_a1⟩ := hf_a1; refine PCall.inW C8 ?_; refine aj ?_; refine qq ?_; refine nI ?_; obtain ⟨r1, hr1, h⟩ := ap h; refine aj ?_; refine q2 ?_; refine bN (aO (aO bq.nil')) (EJ ⟨_, _, rfl, hc_a1⟩ hr1) ?_; refine q2 ?_; refine nI ?_; cases sj h; refine aY ?_; exact bH (.inr rfl) (aP rfl rfl) (RV.d trivial)
theorem EL {a0 : (A8 Int)} {a1 : (List c5)} {r : Bool} (h : uA a0 a1 = some r) : PCall Try.prog 90 [aC (D.int .u16) a0, eL (some 2) cu a1] (.bool r) := by
 refine PCall.inW C9 ?_; refine aj ?_; refine q2 ?_; refine nI ?_; obtain ⟨r1, hr1, h⟩ := ap h; refine aj ?_; refine q2 ?_; refine bN (aO (aO bq.nil')) (EK ⟨106, [.cptr (some 8) (aC (D.int .u16) a0) 0], rfl, fun _ _ h => EI h⟩ hr1) ?_; refine q2 ?_; refine nI ?_; cases sj h; refine aY ?_; exact bH (.inr rfl) (aP rfl rfl) (RV.d trivial)
theorem EM {a0 : bK} {a1 : Int} {a2 : (A8 Int)} {r : Bool} (h : uB a0 a1 a2 = some r) : PCall Try.prog 64 [du a0, .int .i64 a1, aC (D.int .u16) a2] (.bool r) := by
 refine PCall.inW Da ?_; refine aj ?_; refine q3 ?_; refine nI ?_; obtain ⟨y5, hv, h⟩ := ap h; refine aM ⟨tab [(6, vb y5)], ai [], 0⟩ ?_ ?_
 · refine q4 ?_; refine qq ?_; by_cases hg1 : (a0.From == a1) = true
   · replace hv := aU hg1 hv; refine gq hg1 ?_; refine gq hg1 ?_; refine gq hg1 ?_; refine gq hg1 ?_; refine gq hg1 ?_; refine gq hg1 ?_; refine gq hg1 ?_; refine step (aW rfl hg1 rfl) ?_; refine qq ?_; by_cases hg2 : ((IntKind.i64.wrap ((IntKind.i64.wrap a2.a2) - 1)) == a0.From) = true
     · replace hv := aU hg2 hv; refine gq hg2 ?_; refine gq hg2 ?_; refine gq hg2 ?_; refine gq hg2 ?_; refine gq hg2 ?_; refine gq hg2 ?_; refine gq hg2 ?_; refine step (aW rfl hg2 rfl) ?_; refine qq ?_; by_cases hg3 : ((IntKind.i64.wrap ((IntKind.i64.wrap a2.a3) - 1)) == a0.To) = true
       · replace hv := aU hg3 hv; obtain ⟨r4, hr4, hv⟩ := ap hv; refine gq hg3 ?_; refine gq hg3 ?_; refine gq hg3 ?_; refine qG _ hg3 ?_; refine bN (aO (aO bq.nil')) (EL hr4) ?_; refine step (aW rfl hg3 rfl) ?_; refine qq ?_; cases sj hv; exact nR []
       · replace hv := aV hg3 hv; (iterate 4 refine gX hg3 ?_); refine step (bp rfl hg3 rfl) ?_; refine qq ?_; cases sj hv; exact nR []
     · replace hv := aV hg2 hv; (iterate 7 refine gX hg2 ?_); refine step (bp rfl hg2 rfl) ?_; refine qq ?_; (iterate 4 refine qX false (by decide) ?_); refine step (bp rfl (by decide) rfl) ?_; refine qq ?_; cases sj hv; exact nR []
   · replace hv := aV hg1 hv; (iterate 7 refine gX hg1 ?_); refine step (bp rfl hg1 rfl) ?_; refine qq ?_; (iterate 7 refine qX false (by decide) ?_); refine step (bp rfl (by decide) rfl) ?_; refine qq ?_; (iterate 4 refine qX false (by decide) ?_); refine step (bp rfl (by decide) rfl) ?_; refine qq ?_; cases sj hv; exact nR []
 cases sj h; refine aY ?_; exact bH (.inr rfl) (aP rfl rfl) (RV.d trivial)
end Go.AM
