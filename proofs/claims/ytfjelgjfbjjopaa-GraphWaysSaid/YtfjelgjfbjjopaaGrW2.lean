import Derived.Test.YtfjelgjfbjjopaaGrW1
set_option linter.unusedVariables false
set_option linter.unusedSimpArgs false
namespace Go.AM
open Go Go.RowKit Go.Proofs
attribute [local irreducible] aI cb
set_option maxHeartbeats 2000000
theorem c_law29_GraphWays {a0 : api_Topo} {a1 : Int} {a2 : Int} {r : Bool} (h : law29_GraphWays a0 a1 a2 = some r) : PCall Try.prog 7 [eapi_Topo a0, .int .i64 a1, .int .i64 a2] (.bool r) := by
 refine PCall.introN ui (show 3 ≤ 120 by decide) ?_
 refine bg (s0 := ⟨tab [(0, vs1 a0), (1, vi a1), (2, vi a2)], ae [], 0⟩) (nr []) ?_
 refine ak ⟨tab [(1, vi a1), (2, vi a2), (3, ap a0)], ae [], 0⟩ ?_ ?_
 ·
  iterate 2 refine q1 _ ?_
  exact nR []
 refine aH ?_
 obtain ⟨r1, hr1, h⟩ := aB h
 refine ak ⟨tab [(1, vi a1), (2, vi a2), (3, ap a0), (17, vb (!r1))], ae [], 0⟩ ?_ ?_
 ·
  refine bI (r := .bool r1) a8.nil' (uQ hr1) ?_
  refine q1 _ ?_
  exact nR []
 by_cases hc2 : (!r1) = true
 ·
  replace h := bo hc2 h
  refine bb (t := (!r1)) rfl hc2 ?_
  refine ak ⟨tab [(6, vb false)], ae [], 0⟩ ?_ ?_
  ·
   refine q1 _ ?_
   exact nR []
  have hh := aC h
  subst hh
  refine bA ?_
  show FQ _ _ _ _
  exact bZ (.inr rfl) (bh (v := vb false) rfl rfl) (RV.d trivial)
 ·
  replace h := bp hc2 h
  refine bd (t := (!r1)) rfl hc2 ?_
  refine bf ?_
  refine aH ?_
  obtain ⟨r3, hr3, h⟩ := aB h
  refine ak ⟨tab [(1, vi a1), (2, vi a2), (3, ap a0), (20, vb (r3 != 0))], ae [], 0⟩ ?_ ?_
  ·
   refine q1 _ ?_
   refine bI (r := .int .i64 r3) (aK a8.nil') (uS hr3) ?_
   refine q1 _ ?_
   exact nR []
  by_cases hc4 : (r3 != 0) = true
  ·
   replace h := bo hc4 h
   refine bb (t := (r3 != 0)) rfl hc4 ?_
   refine ak ⟨tab [(6, vb true)], ae [], 0⟩ ?_ ?_
   ·
    refine q1 _ ?_
    exact nR []
   have hh := aC h
   subst hh
   refine bA ?_
   show FQ _ _ _ _
   exact bZ (.inr rfl) (bh (v := vb true) rfl rfl) (RV.d trivial)
  ·
   replace h := bp hc4 h
   refine bd (t := (r3 != 0)) rfl hc4 ?_
   refine bf ?_
   obtain ⟨r5, hr5, h⟩ := aB h
   refine ak ⟨tab [(1, vi a1), (2, vi a2), (3, ap a0), (7, aS r5.1), (8, vb r5.2)], ae [], 0⟩ ?_ ?_
   ·
    iterate 3 refine q1 _ ?_
    refine bI (r := .tup [eL none (D.int .i64) r5.1, .bool r5.2]) (aK (aK (aK a8.nil'))) (pd hr5) ?_
    iterate 5 refine q1 _ ?_
    exact nR []
   obtain ⟨r6, hr6, h⟩ := aB h
   refine ak ⟨tab [(1, vi a1), (2, vi a2), (3, ap a0), (7, aS r5.1), (8, vb r5.2), (9, aS r6.1), (10, vb r6.2)], ae [], 0⟩ ?_ ?_
   ·
    iterate 3 refine q1 _ ?_
    refine bI (r := .tup [eL none (D.int .i64) r6.1, .bool r6.2]) (aK (aK (aK a8.nil'))) (uU hr6) ?_
    iterate 5 refine q1 _ ?_
    exact nR []
   refine aH ?_
   obtain ⟨y12, hv, h⟩ := aB h
   refine ak ⟨tab [(1, vi a1), (2, vi a2), (3, ap a0), (54, vb y12)], ae [], 0⟩ ?_ ?_
   ·
    iterate 4 refine q1 _ ?_
    by_cases hg7 : (!(r5.2 == r6.2)) = true
    ·
     replace hv := bo hg7 hv
     iterate 4 refine qX (!(r5.2 == r6.2)) (by rw [hg7]; decide) ?_
     refine step (v := vb true) (ba (b := (!(r5.2 == r6.2))) rfl hg7 rfl) ?_
     refine q1 _ ?_
     iterate 9 refine qX true (by decide) ?_
     refine step (v := vb true) (ba (b := true) rfl rfl rfl) ?_
     have hh := aC hv
     subst hh
     exact nR []
    ·
     replace hv := bp hg7 hv
     obtain ⟨r8, hr8, hv⟩ := aB hv
     refine qG (!(r5.2 == r6.2)) (Bool.eq_false_iff.2 hg7) ?_
     refine q1 _ ?_
     refine qG (!(r5.2 == r6.2)) (Bool.eq_false_iff.2 hg7) ?_
     refine q1 _ ?_
     refine qG (!(r5.2 == r6.2)) (Bool.eq_false_iff.2 hg7) ?_
     refine bI (r := .bool r8) (aK (aK a8.nil')) (pf hr8) ?_
     refine qG (!(r5.2 == r6.2)) (Bool.eq_false_iff.2 hg7) ?_
     refine q1 _ ?_
     refine step (v := vb (!r8)) (bk (b := (!(r5.2 == r6.2))) rfl hg7 rfl) ?_
     refine q1 _ ?_
     by_cases hg9 : (!r8) = true
     ·
      replace hv := bo hg9 hv
      iterate 9 refine qX (!r8) (by rw [hg9]; decide) ?_
      refine step (v := vb true) (ba (b := (!r8)) rfl hg9 rfl) ?_
      have hh := aC hv
      subst hh
      exact nR []
     ·
      replace hv := bp hg9 hv
      obtain ⟨r10, hr10, hv⟩ := aB hv
      obtain ⟨r11, hr11, hv⟩ := aB hv
      refine qG (!r8) (Bool.eq_false_iff.2 hg9) ?_
      refine q1 _ ?_
      refine qG (!r8) (Bool.eq_false_iff.2 hg9) ?_
      refine q1 _ ?_
      refine qG (!r8) (Bool.eq_false_iff.2 hg9) ?_
      refine q1 _ ?_
      refine qG (!r8) (Bool.eq_false_iff.2 hg9) ?_
      refine bI (r := .int .i64 r10) (aK (aK (aK a8.nil'))) (pg hr10) ?_
      refine qG (!r8) (Bool.eq_false_iff.2 hg9) ?_
      refine q1 _ ?_
      refine qG (!r8) (Bool.eq_false_iff.2 hg9) ?_
      refine q1 _ ?_
      refine qG (!r8) (Bool.eq_false_iff.2 hg9) ?_
      refine q1 _ ?_
      refine qG (!r8) (Bool.eq_false_iff.2 hg9) ?_
      refine bI (r := .int .i64 r11) (aK (aK (aK (aK a8.nil')))) (md hr11) ?_
      refine qG (!r8) (Bool.eq_false_iff.2 hg9) ?_
      refine q1 _ ?_
      refine step (v := vb (r10 != r11)) (bk (b := (!r8)) rfl hg9 rfl) ?_
      have hh := aC hv
      subst hh
      exact nR []
   by_cases hc14 : y12 = true
   ·
    replace h := bo hc14 h
    refine bb (t := y12) rfl hc14 ?_
    refine ak ⟨tab [(6, vb false)], ae [], 0⟩ ?_ ?_
    ·
     refine q1 _ ?_
     exact nR []
    have hh := aC h
    subst hh
    refine bA ?_
    show FQ _ _ _ _
    exact bZ (.inr rfl) (bh (v := vb false) rfl rfl) (RV.d trivial)
   ·
    replace h := bp hc14 h
    refine bd (t := y12) rfl hc14 ?_
    refine bf ?_
    obtain ⟨r15, hr15, h⟩ := aB h
    refine ak ⟨tab [(1, vi a1), (2, vi a2), (3, ap a0), (11, vh r15.1), (12, vb r15.2)], ae [], 0⟩ ?_ ?_
    ·
     iterate 3 refine q1 _ ?_
     refine bI (r := .tup [.int .u16 r15.1, .bool r15.2]) (aK (aK (aK a8.nil'))) (pe hr15) ?_
     iterate 5 refine q1 _ ?_
     exact nR []
    refine ak ⟨tab [(1, vi a1), (2, vi a2), (3, ap a0), (11, vh r15.1), (12, vb r15.2), (13, vi (a0.Switches.length : Int))], ae [], 0⟩ ?_ ?_
    ·
     iterate 2 refine q1 _ ?_
     refine step (v := vi (a0.Switches.length : Int)) (bR (xs := a0.Switches) (e := (D.int .u16)) rfl) ?_
     refine q1 _ ?_
     exact nR []
    refine aH ?_
    obtain ⟨y21, hv, h⟩ := aB h
    refine ak ⟨tab [(1, vi a1), (2, vi a2), (3, ap a0), (11, vh r15.1), (12, vb r15.2), (87, vb y21)], ae [], 0⟩ ?_ ?_
    ·
     iterate 3 refine q1 _ ?_
     by_cases hg16 : decide (a1 < 0) = true
     ·
      replace hv := bo hg16 hv
      iterate 3 refine qX (decide (a1 < 0)) (by rw [hg16]; decide) ?_
      refine step (v := vb true) (ba (b := decide (a1 < 0)) rfl hg16 rfl) ?_
      refine q1 _ ?_
      iterate 2 refine qX true (by decide) ?_
      refine step (v := vb true) (ba (b := true) rfl rfl rfl) ?_
      refine q1 _ ?_
      iterate 3 refine qX true (by decide) ?_
      refine step (v := vb true) (ba (b := true) rfl rfl rfl) ?_
      refine q1 _ ?_
      iterate 5 refine qX true (by decide) ?_
      refine step (v := vb true) (ba (b := true) rfl rfl rfl) ?_
      have hh := aC hv
      subst hh
      exact nR []
     ·
      replace hv := bp hg16 hv
      refine qG (decide (a1 < 0)) (Bool.eq_false_iff.2 hg16) ?_
      refine q1 _ ?_
      refine qG (decide (a1 < 0)) (Bool.eq_false_iff.2 hg16) ?_
      refine q1 _ ?_
      refine qG (decide (a1 < 0)) (Bool.eq_false_iff.2 hg16) ?_
      refine q1 _ ?_
      refine step (v := vb (decide (a1 ≥ (a0.Switches.length : Int)))) (bk (b := decide (a1 < 0)) rfl hg16 rfl) ?_
      refine q1 _ ?_
      by_cases hg17 : decide (a1 ≥ (a0.Switches.length : Int)) = true
      ·
       replace hv := bo hg17 hv
       iterate 2 refine qX (decide (a1 ≥ (a0.Switches.length : Int))) (by rw [hg17]; decide) ?_
       refine step (v := vb true) (ba (b := decide (a1 ≥ (a0.Switches.length : Int))) rfl hg17 rfl) ?_
       refine q1 _ ?_
       iterate 3 refine qX true (by decide) ?_
       refine step (v := vb true) (ba (b := true) rfl rfl rfl) ?_
       refine q1 _ ?_
       iterate 5 refine qX true (by decide) ?_
       refine step (v := vb true) (ba (b := true) rfl rfl rfl) ?_
       have hh := aC hv
       subst hh
       exact nR []
      ·
       replace hv := bp hg17 hv
       refine qG (decide (a1 ≥ (a0.Switches.length : Int))) (Bool.eq_false_iff.2 hg17) ?_
       refine q1 _ ?_
       refine qG (decide (a1 ≥ (a0.Switches.length : Int))) (Bool.eq_false_iff.2 hg17) ?_
       refine q1 _ ?_
       refine step (v := vb (decide (a2 < 0))) (bk (b := decide (a1 ≥ (a0.Switches.length : Int))) rfl hg17 rfl) ?_
       refine q1 _ ?_
       by_cases hg18 : decide (a2 < 0) = true
       ·
        replace hv := bo hg18 hv
        iterate 3 refine qX (decide (a2 < 0)) (by rw [hg18]; decide) ?_
        refine step (v := vb true) (ba (b := decide (a2 < 0)) rfl hg18 rfl) ?_
        refine q1 _ ?_
        iterate 5 refine qX true (by decide) ?_
        refine step (v := vb true) (ba (b := true) rfl rfl rfl) ?_
        have hh := aC hv
        subst hh
        exact nR []
       ·
        replace hv := bp hg18 hv
        refine qG (decide (a2 < 0)) (Bool.eq_false_iff.2 hg18) ?_
        refine q1 _ ?_
        refine qG (decide (a2 < 0)) (Bool.eq_false_iff.2 hg18) ?_
        refine q1 _ ?_
        refine qG (decide (a2 < 0)) (Bool.eq_false_iff.2 hg18) ?_
        refine q1 _ ?_
        refine step (v := vb (decide (a2 ≥ (a0.Switches.length : Int)))) (bk (b := decide (a2 < 0)) rfl hg18 rfl) ?_
        refine q1 _ ?_
        by_cases hg19 : decide (a2 ≥ (a0.Switches.length : Int)) = true
        ·
         replace hv := bo hg19 hv
         iterate 5 refine qX (decide (a2 ≥ (a0.Switches.length : Int))) (by rw [hg19]; decide) ?_
         refine step (v := vb true) (ba (b := decide (a2 ≥ (a0.Switches.length : Int))) rfl hg19 rfl) ?_
         have hh := aC hv
         subst hh
         exact nR []
        ·
         replace hv := bp hg19 hv
         obtain ⟨r20, hr20, hv⟩ := aB hv
         refine qG (decide (a2 ≥ (a0.Switches.length : Int))) (Bool.eq_false_iff.2 hg19) ?_
         refine q1 _ ?_
         refine qG (decide (a2 ≥ (a0.Switches.length : Int))) (Bool.eq_false_iff.2 hg19) ?_
         refine q1 _ ?_
         refine qG (decide (a2 ≥ (a0.Switches.length : Int))) (Bool.eq_false_iff.2 hg19) ?_
         refine q1 _ ?_
         refine qG (decide (a2 ≥ (a0.Switches.length : Int))) (Bool.eq_false_iff.2 hg19) ?_
         refine bI (r := .bool r20) (aK (aK (aK (aK a8.nil')))) (mc hr20) ?_
         refine qG (decide (a2 ≥ (a0.Switches.length : Int))) (Bool.eq_false_iff.2 hg19) ?_
         refine q1 _ ?_
         refine step (v := vb (!r20)) (bk (b := decide (a2 ≥ (a0.Switches.length : Int))) rfl hg19 rfl) ?_
         have hh := aC hv
         subst hh
         exact nR []
    by_cases hc23 : y21 = true
    ·
     replace h := bo hc23 h
     refine bb (t := y21) rfl hc23 ?_
     refine ak ⟨tab [(6, vb ((!r15.2) && (r15.1 == 0)))], ae [], 0⟩ ?_ ?_
     ·
      iterate 3 refine q1 _ ?_
      by_cases hg24 : (!r15.2) = true
      ·
       refine qG _ hg24 ?_
       refine q1 _ ?_
       refine qG _ hg24 ?_
       refine q1 _ ?_
       refine step (v := vb (r15.1 == 0)) (ba (b := (!r15.2)) rfl hg24 rfl) ?_
       refine q1 _ ?_
       exact aI.nil' (nm [] ⟨.eq (by first | (simp [hg24]; done) | (simp_all; done) | grind), trivial⟩ trivial)
      ·
       iterate 2 refine qX _ hg24 ?_
       refine step (v := vb false) (bk (b := (!r15.2)) rfl hg24 rfl) ?_
       refine q1 _ ?_
       exact aI.nil' (nm [] ⟨.eq (by first | (simp [hg24]; done) | (simp_all; done) | grind), trivial⟩ trivial)
     have hh := aC h
     subst hh
     refine bA ?_
     show FQ _ _ _ _
     exact bZ (.inr rfl) (bh (v := vb ((!r15.2) && (r15.1 == 0))) rfl rfl) (RV.d trivial)
    ·
     replace h := bp hc23 h
     refine bd (t := y21) rfl hc23 ?_
     refine bf ?_
     obtain ⟨x25, hx25, h⟩ := aB h
     obtain ⟨r26, hr26, h⟩ := aB h
     refine ak ⟨tab [(2, vi a2), (3, ap a0), (12, vb r15.2), (14, .ptr 0 0 0), (15, vb r26.2)], ae [(0, .var [vh r26.1.Sw, vh r26.1.Pt])], 1⟩ ?_ ?_
     ·
      iterate 4 refine q1 _ ?_
      refine step (v := .d (.cptr none (.int .u16 x25) 0)) (bX (xs := a0.Switches) (e := (D.int .u16)) hx25 rfl rfl) ?_
      iterate 2 refine q1 _ ?_
      refine step (v := vs2 (api_Port.mk x25 r15.1)) (fu (ds := [.int .u16 x25, .int .u16 r15.1]) rfl) ?_
      refine bI (r := .tup [eapi_Port r26.1, .bool r26.2]) (aK (aK a8.nil')) (uV hr26) ?_
      iterate 3 refine q1 _ ?_
      refine step (v := .ptr 0 0 0) (σ' := (ah (ae []) 0 (some (.var [vh 0, vh 0])))) (n' := 1) rfl ?_
      refine step (v := V.undef) (σ' := (ah (ah (ae []) 0 (some (.var [vh 0, vh 0]))) 0 (some (.var [vh r26.1.Sw, vh r26.1.Pt])))) (n' := 1) rfl ?_
      refine q1 _ ?_
      exact nR [0]
     obtain ⟨y30, hv, h⟩ := aB h
     refine ak ⟨tab [(6, vb y30)], ae [], 0⟩ ?_ ?_
     ·
      iterate 2 refine q1 _ ?_
      by_cases hg27 : r15.2 = true
      ·
       replace hv := bo hg27 hv
       refine qG _ hg27 ?_
       refine q1 _ ?_
       refine step (v := vb r26.2) (ba (b := r15.2) rfl hg27 rfl) ?_
       refine q1 _ ?_
       by_cases hg28 : r26.2 = true
       ·
        replace hv := bo hg28 hv
        obtain ⟨x29, hx29, hv⟩ := aB hv
        refine qG _ hg28 ?_
        refine q1 _ ?_
        refine qG _ hg28 ?_
        refine q1 _ ?_
        refine qG _ hg28 ?_
        refine q1 _ ?_
        refine qG _ hg28 ?_
        refine q1 _ ?_
        refine qG _ hg28 ?_
        refine q1 _ ?_
        refine qG _ hg28 ?_
        refine step (v := .d (.cptr none (.int .u16 x29) 0)) (bX (xs := a0.Switches) (e := (D.int .u16)) hx29 rfl rfl) ?_
        refine qG _ hg28 ?_
        refine q1 _ ?_
        refine qG _ hg28 ?_
        refine q1 _ ?_
        refine step (v := vb (r26.1.Sw == x29)) (ba (b := r26.2) rfl hg28 rfl) ?_
        refine q1 _ ?_
        have hh := aC hv
        subst hh
        exact nR []
       ·
        replace hv := bp hg28 hv
        iterate 8 refine qX _ hg28 ?_
        refine step (v := vb false) (bk (b := r26.2) rfl hg28 rfl) ?_
        refine q1 _ ?_
        have hh := aC hv
        subst hh
        exact nR []
      ·
       replace hv := bp hg27 hv
       refine qX _ hg27 ?_
       refine step (v := vb false) (bk (b := r15.2) rfl hg27 rfl) ?_
       refine q1 _ ?_
       iterate 8 refine qX false (by decide) ?_
       refine step (v := vb false) (bk (b := false) rfl (by decide) rfl) ?_
       refine q1 _ ?_
       have hh := aC hv
       subst hh
       exact nR []
     have hh := aC h
     subst hh
     refine bA ?_
     show FQ _ _ _ _
     exact bZ (.inr rfl) (bh (v := vb y30) rfl rfl) (RV.d trivial)
end Go.AM
