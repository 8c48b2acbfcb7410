import Derived.Test.YtnnkfanmokeiaaaPmW2
set_option linter.unusedVariables false
set_option linter.unusedSimpArgs false
namespace Go.AM
open Go Go.RowKit Go.Proofs
set_option maxRecDepth 10000
attribute [local irreducible] aM ck
set_option maxHeartbeats 2000000
theorem c_law07_PolicyAt {a0 : (List law05_Step)} {a1 : (A2 (List Int))} {a2 : (A8 Int)} {r : Bool} (h : law07_PolicyAt a0 a1 a2 = some r) : PCall Try.prog 6 [eL (some 4) elaw05_Step a0, eA2 (eL none (D.int .u16)) a1, eA8 (D.int .u16) a2] (.bool r) := by
 refine PCall.introN xX (show 3 ≤ 73 by decide) ?_
 refine be (s0 := ⟨tab [(0, cl a0), (1, .d (eA2 (eL none (D.int .u16)) a1)), (2, .d (eA8 (D.int .u16) a2))], ac [], 0⟩) (nr []) ?_
 refine aj ⟨tab [(0, cl a0), (4, .d (.cptr (some 2) (eA2 (eL none (D.int .u16)) a1) 0)), (5, .d (.cptr (some 8) (eA8 (D.int .u16) a2) 0))], ac [], 0⟩ ?_ ?_
 ·
  iterate 3 refine q1 _ ?_
  exact nR []
 refine aG ?_
 obtain ⟨r1, hr1, h⟩ := ax h
 refine aj ⟨tab [(0, cl a0), (4, .d (.cptr (some 2) (eA2 (eL none (D.int .u16)) a1) 0)), (5, .d (.cptr (some 8) (eA8 (D.int .u16) a2) 0)), (15, vb (!r1))], ac [], 0⟩ ?_ ?_
 ·
  refine bu (r := .bool r1) aQ.nil' (yE hr1) ?_
  refine q1 _ ?_
  exact nR []
 by_cases hc2 : (!r1) = true
 ·
  replace h := aK hc2 h
  refine aW (t := (!r1)) rfl hc2 ?_
  refine aj ⟨tab [(6, vb false)], ac [], 0⟩ ?_ ?_
  ·
   refine q1 _ ?_
   exact nR []
  have hh := ap h
  subst hh
  refine aU ?_
  show FQ _ _ _ _
  exact bk (.inr rfl) (bp (v := vb false) rfl rfl) (RV.d trivial)
 ·
  replace h := aL hc2 h
  refine aT (t := (!r1)) rfl hc2 ?_
  refine bo ?_
  obtain ⟨r3, hr3, h⟩ := ax h
  refine aj ⟨tab [(4, .d (.cptr (some 2) (eA2 (eL none (D.int .u16)) a1) 0)), (5, .d (.cptr (some 8) (eA8 (D.int .u16) a2) 0)), (7, .ptr 0 0 0), (8, vb r3.2)], ac [(0, .var [vi r3.1.Op, vi r3.1.F, vh r3.1.N, aV r3.1.Kids])], 1⟩ ?_ ?_
  ·
   refine q1 _ ?_
   refine bu (r := .tup [a8 r3.1, .bool r3.2]) (aJ aQ.nil') (yF hr3) ?_
   iterate 3 refine q1 _ ?_
   refine step (v := .ptr 0 0 0) (σ' := (ak (ac []) 0 (some (aN)))) (n' := 1) rfl ?_
   refine step (v := V.undef) (σ' := (ak (ak (ac []) 0 (some (aN))) 0 (some (.var [vi r3.1.Op, vi r3.1.F, vh r3.1.N, aV r3.1.Kids])))) (n' := 1) rfl ?_
   refine q1 _ ?_
   exact nR [0]
  refine aG ?_
  refine aj ⟨tab [(4, .d (.cptr (some 2) (eA2 (eL none (D.int .u16)) a1) 0)), (5, .d (.cptr (some 8) (eA8 (D.int .u16) a2) 0)), (7, .ptr 0 0 0), (34, vb ((!r3.2) || ((decide ((a1.a0.length : Int) > 6)) || (decide ((a1.a1.length : Int) > 6)))))], ac [(0, .var [vi r3.1.Op, vi r3.1.F, vh r3.1.N, aV r3.1.Kids])], 1⟩ ?_ ?_
  ·
   iterate 3 refine q1 _ ?_
   by_cases hg4 : (!r3.2) = true
   ·
    iterate 4 refine qX (!r3.2) (by rw [hg4]; decide) ?_
    refine step (v := vb true) (aO (b := (!r3.2)) rfl hg4 rfl) ?_
    refine q1 _ ?_
    iterate 4 refine qX true (by decide) ?_
    refine step (v := vb true) (aO (b := true) rfl rfl rfl) ?_
    exact aM.nil' (nm [0] ⟨.d _, .d _, .pt 0, .eq (by first | (simp [hg4]; done) | (simp_all; done) | grind), trivial⟩ ⟨⟨show 0 < 1 by decide, _, rfl, .vars ⟨.d _, .d _, .d _, .d _, trivial⟩⟩, trivial⟩)
   ·
    refine qG (!r3.2) (Bool.eq_false_iff.2 hg4) ?_
    refine q1 _ ?_
    refine qG (!r3.2) (Bool.eq_false_iff.2 hg4) ?_
    refine q1 _ ?_
    refine qG (!r3.2) (Bool.eq_false_iff.2 hg4) ?_
    refine step (v := vi (a1.a0.length : Int)) (bE (xs := a1.a0) (e := (D.int .u16)) rfl) ?_
    refine qG (!r3.2) (Bool.eq_false_iff.2 hg4) ?_
    refine q1 _ ?_
    refine step (v := vb (decide ((a1.a0.length : Int) > 6))) (aS (b := (!r3.2)) rfl hg4 rfl) ?_
    refine q1 _ ?_
    by_cases hg5 : decide ((a1.a0.length : Int) > 6) = true
    ·
     iterate 4 refine qX (decide ((a1.a0.length : Int) > 6)) (by rw [hg5]; decide) ?_
     refine step (v := vb true) (aO (b := decide ((a1.a0.length : Int) > 6)) rfl hg5 rfl) ?_
     exact aM.nil' (nm [0] ⟨.d _, .d _, .pt 0, .eq (by first | (simp [hg4, hg5]; done) | (simp_all; done) | grind), trivial⟩ ⟨⟨show 0 < 1 by decide, _, rfl, .vars ⟨.d _, .d _, .d _, .d _, trivial⟩⟩, trivial⟩)
    ·
     refine qG (decide ((a1.a0.length : Int) > 6)) (Bool.eq_false_iff.2 hg5) ?_
     refine q1 _ ?_
     refine qG (decide ((a1.a0.length : Int) > 6)) (Bool.eq_false_iff.2 hg5) ?_
     refine q1 _ ?_
     refine qG (decide ((a1.a0.length : Int) > 6)) (Bool.eq_false_iff.2 hg5) ?_
     refine step (v := vi (a1.a1.length : Int)) (bE (xs := a1.a1) (e := (D.int .u16)) rfl) ?_
     refine qG (decide ((a1.a0.length : Int) > 6)) (Bool.eq_false_iff.2 hg5) ?_
     refine q1 _ ?_
     refine step (v := vb (decide ((a1.a1.length : Int) > 6))) (aS (b := decide ((a1.a0.length : Int) > 6)) rfl hg5 rfl) ?_
     exact aM.nil' (nm [0] ⟨.d _, .d _, .pt 0, .eq (by first | (simp [hg4, hg5]; done) | (simp_all; done) | grind), trivial⟩ ⟨⟨show 0 < 1 by decide, _, rfl, .vars ⟨.d _, .d _, .d _, .d _, trivial⟩⟩, trivial⟩)
  by_cases hc6 : ((!r3.2) || ((decide ((a1.a0.length : Int) > 6)) || (decide ((a1.a1.length : Int) > 6)))) = true
  ·
   replace h := aK hc6 h
   refine aW (t := ((!r3.2) || ((decide ((a1.a0.length : Int) > 6)) || (decide ((a1.a1.length : Int) > 6))))) rfl hc6 ?_
   refine aj ⟨tab [(6, vb true)], ac [], 0⟩ ?_ ?_
   ·
    refine q1 _ ?_
    exact nR []
   have hh := ap h
   subst hh
   refine aU ?_
   show FQ _ _ _ _
   exact bk (.inr rfl) (bp (v := vb true) rfl rfl) (RV.d trivial)
  ·
   replace h := aL hc6 h
   refine aT (t := ((!r3.2) || ((decide ((a1.a0.length : Int) > 6)) || (decide ((a1.a1.length : Int) > 6))))) rfl hc6 ?_
   refine bo ?_
   obtain ⟨r7, hr7, h⟩ := ax h
   refine aj ⟨tab [(4, .d (.cptr (some 2) (eA2 (eL none (D.int .u16)) a1) 0)), (5, .d (.cptr (some 8) (eA8 (D.int .u16) a2) 0)), (7, .ptr 0 0 0), (9, .ptr 1 0 0)], ac [(0, .var [vi r3.1.Op, vi r3.1.F, vh r3.1.N, aV r3.1.Kids]), (1, bw r7)], 2⟩ ?_ ?_
   ·
    refine step (v := vs1 r3.1) (c9 (ds := [.int .i64 r3.1.Op, .int .i64 r3.1.F, .int .u16 r3.1.N, eL (some 4) aq r3.1.Kids]) rfl rfl (show 4 ≤ 4 by decide) rfl) ?_
    iterate 2 refine q1 _ ?_
    refine bu (r := a8 r7) (aJ (aJ aQ.nil')) (yT hr7) ?_
    refine step (v := .ptr 1 0 0) (σ' := (ak (ac [(0, .var [vi r3.1.Op, vi r3.1.F, vh r3.1.N, aV r3.1.Kids])]) 1 (some (aN)))) (n' := 2) rfl ?_
    refine step (v := V.undef) (σ' := (ak (ak (ac [(0, .var [vi r3.1.Op, vi r3.1.F, vh r3.1.N, aV r3.1.Kids])]) 1 (some (aN))) 1 (some (bw r7)))) (n' := 2) rfl ?_
    exact nR [0, 1]
   refine aG ?_
   obtain ⟨r8, hr8, h⟩ := ax h
   obtain ⟨r9, hr9, h⟩ := ax h
   refine aj ⟨tab [(4, .d (.cptr (some 2) (eA2 (eL none (D.int .u16)) a1) 0)), (5, .d (.cptr (some 8) (eA8 (D.int .u16) a2) 0)), (7, .ptr 0 0 0), (9, .ptr 1 0 0), (45, vb (!r9))], ac [(0, .var [vi r3.1.Op, vi r3.1.F, vh r3.1.N, aV r3.1.Kids]), (1, bw r7)], 2⟩ ?_ ?_
   ·
    refine step (v := vs1 r7) (c9 (ds := [.int .i64 r7.Op, .int .i64 r7.F, .int .u16 r7.N, eL (some 4) aq r7.Kids]) rfl rfl (show 4 ≤ 4 by decide) rfl) ?_
    refine step (v := vs1 r3.1) (c9 (ds := [.int .i64 r3.1.Op, .int .i64 r3.1.F, .int .u16 r3.1.N, eL (some 4) aq r3.1.Kids]) rfl rfl (show 4 ≤ 4 by decide) rfl) ?_
    iterate 2 refine q1 _ ?_
    refine bu (r := a8 r8) (aJ (aJ aQ.nil')) (yV hr8) ?_
    refine bu (r := .bool r9) (aJ (aJ aQ.nil')) (yX hr9) ?_
    refine q1 _ ?_
    exact nR [0, 1]
   by_cases hc10 : (!r9) = true
   ·
    replace h := aK hc10 h
    refine aW (t := (!r9)) rfl hc10 ?_
    refine aj ⟨tab [(6, vb false)], ac [], 0⟩ ?_ ?_
    ·
     refine q1 _ ?_
     exact nR []
    have hh := ap h
    subst hh
    refine aU ?_
    show FQ _ _ _ _
    exact bk (.inr rfl) (bp (v := vb false) rfl rfl) (RV.d trivial)
   ·
    replace h := aL hc10 h
    refine aT (t := (!r9)) rfl hc10 ?_
    refine bo ?_
    refine aG ?_
    obtain ⟨r11, hr11, h⟩ := ax h
    refine aj ⟨tab [(4, .d (.cptr (some 2) (eA2 (eL none (D.int .u16)) a1) 0)), (5, .d (.cptr (some 8) (eA8 (D.int .u16) a2) 0)), (7, .ptr 0 0 0), (9, .ptr 1 0 0), (48, vb (!r11))], ac [(0, .var [vi r3.1.Op, vi r3.1.F, vh r3.1.N, aV r3.1.Kids]), (1, bw r7)], 2⟩ ?_ ?_
    ·
     refine step (v := vs1 r3.1) (c9 (ds := [.int .i64 r3.1.Op, .int .i64 r3.1.F, .int .u16 r3.1.N, eL (some 4) aq r3.1.Kids]) rfl rfl (show 4 ≤ 4 by decide) rfl) ?_
     refine bu (r := .bool r11) (aJ aQ.nil') (yP hr11) ?_
     refine q1 _ ?_
     exact nR [0, 1]
    by_cases hc12 : (!r11) = true
    ·
     replace h := aK hc12 h
     refine aW (t := (!r11)) rfl hc12 ?_
     refine aj ⟨tab [(6, vb true)], ac [], 0⟩ ?_ ?_
     ·
      refine q1 _ ?_
      exact nR []
     have hh := ap h
     subst hh
     refine aU ?_
     show FQ _ _ _ _
     exact bk (.inr rfl) (bp (v := vb true) rfl rfl) (RV.d trivial)
    ·
     replace h := aL hc12 h
     refine aT (t := (!r11)) rfl hc12 ?_
     refine bo ?_
     obtain ⟨r13, hr13, h⟩ := ax h
     refine aj ⟨tab [(4, .d (.cptr (some 2) (eA2 (eL none (D.int .u16)) a1) 0)), (5, .d (.cptr (some 8) (eA8 (D.int .u16) a2) 0)), (9, .ptr 0 0 0), (10, .d (eL (some 8) (eA8 (D.int .u16)) r13.1)), (11, vi r13.2)], ac [(0, bw r7)], 1⟩ ?_ ?_
     ·
      refine step (v := vs1 r3.1) (c9 (ds := [.int .i64 r3.1.Op, .int .i64 r3.1.F, .int .u16 r3.1.N, eL (some 4) aq r3.1.Kids]) rfl rfl (show 4 ≤ 4 by decide) rfl) ?_
      iterate 3 refine q1 _ ?_
      refine bu (r := .tup [eL (some 8) (eA8 (D.int .u16)) r13.1, .int .i64 r13.2]) (aJ (aJ (aJ aQ.nil'))) (jY hr13) ?_
      iterate 5 refine q1 _ ?_
      exact nR [1]
     obtain ⟨r14, hr14, h⟩ := ax h
     refine aj ⟨tab [(10, .d (eL (some 8) (eA8 (D.int .u16)) r13.1)), (11, vi r13.2), (12, .d (eL (some 8) (eA8 (D.int .u16)) r14.1)), (13, vi r14.2)], ac [], 0⟩ ?_ ?_
     ·
      refine step (v := vs1 r7) (c9 (ds := [.int .i64 r7.Op, .int .i64 r7.F, .int .u16 r7.N, eL (some 4) aq r7.Kids]) rfl rfl (show 4 ≤ 4 by decide) rfl) ?_
      iterate 3 refine q1 _ ?_
      refine bu (r := .tup [eL (some 8) (eA8 (D.int .u16)) r14.1, .int .i64 r14.2]) (aJ (aJ (aJ aQ.nil'))) (jY hr14) ?_
      iterate 5 refine q1 _ ?_
      exact nR []
     obtain ⟨y17, hv, h⟩ := ax h
     refine aj ⟨tab [(6, vb y17)], ac [], 0⟩ ?_ ?_
     ·
      iterate 4 refine q1 _ ?_
      by_cases hg15 : (r13.2 == r14.2) = true
      ·
       replace hv := aK hg15 hv
       obtain ⟨r16, hr16, hv⟩ := ax hv
       refine qG _ hg15 ?_
       refine q1 _ ?_
       refine qG _ hg15 ?_
       refine q1 _ ?_
       refine qG _ hg15 ?_
       refine bu (r := .bool r16) (aJ (aJ aQ.nil')) (yQ hr16) ?_
       refine step (v := vb r16) (aO (b := (r13.2 == r14.2)) rfl hg15 rfl) ?_
       refine q1 _ ?_
       have hh := ap hv
       subst hh
       exact nR []
      ·
       replace hv := aL hg15 hv
       iterate 3 refine qX _ hg15 ?_
       refine step (v := vb false) (aS (b := (r13.2 == r14.2)) rfl hg15 rfl) ?_
       refine q1 _ ?_
       have hh := ap hv
       subst hh
       exact nR []
     have hh := ap h
     subst hh
     refine aU ?_
     show FQ _ _ _ _
     exact bk (.inr rfl) (bp (v := vb y17) rfl rfl) (RV.d trivial)
end Go.AM
