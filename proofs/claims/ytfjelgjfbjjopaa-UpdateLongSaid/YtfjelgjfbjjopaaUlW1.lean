import Derived.Test.YtfjelgjfbjjopaaUlE
set_option linter.unusedVariables false
set_option linter.unusedSimpArgs false
namespace Go.AM
open Go Go.RowKit Go.Proofs
attribute [local irreducible] aV de
set_option maxHeartbeats 2000000
theorem oM {a0 : (List al)} {a1 : (List al)} {r : Bool} (h : gm a0 a1 = some r) : PCall Try.prog 42 [eL (some 2) am a0, eL (some 2) am a1] (.bool r) := by
 refine PCall.introN sK (show 2 ≤ 11 by decide) ?_
 refine az.norm (s0 := ⟨tab [(0, aC a0), (1, aC a1)], ag [], 0⟩) (nr []) ?_
 refine ax ⟨tab [(0, aC a0), (1, aC a1)], ag [], 0⟩ ?_ ?_
 ·
  refine q1 _ ?_
  exact nR []
 refine ax ⟨tab [(4, vb (decide ((eG (a0.length : Int) (a1.length : Int)) ≤ 1000)))], ag [], 0⟩ ?_ ?_
 ·
  refine q1 _ ?_
  refine step (v := vi (a0.length : Int)) (bL (xs := a0) (e := am) rfl) ?_
  refine q1 _ ?_
  refine step (v := vi (a1.length : Int)) (bL (xs := a1) (e := am) rfl) ?_
  iterate 3 refine q1 _ ?_
  exact nR []
 have hh := aH h
 subst hh
 refine bE ?_
 show FQ _ _ _ _
 exact cf (.inr rfl) (bG (v := vb (decide ((eG (a0.length : Int) (a1.length : Int)) ≤ 1000))) rfl rfl) (RV.d trivial)
theorem tB {a0 : (List br)} {a1 : (List br)} {r : Bool} (h : iW a0 a1 = some r) : PCall Try.prog 76 [eL (some 2) aI a0, eL (some 2) aI a1] (.bool r) := by
 refine PCall.introN sN (show 2 ≤ 26 by decide) ?_
 refine az.norm (s0 := ⟨tab [(0, aT a0), (1, aT a1)], ag [], 0⟩) (nr []) ?_
 refine ax ⟨tab [(0, aT a0), (1, aT a1)], ag [], 0⟩ ?_ ?_
 ·
  refine q1 _ ?_
  exact nR []
 refine a9 ?_
 refine ax ⟨tab [(0, aT a0), (1, aT a1), (10, vb ((a0.length : Int) != (a1.length : Int)))], ag [], 0⟩ ?_ ?_
 ·
  refine q1 _ ?_
  refine step (v := vi (a0.length : Int)) (bL (xs := a0) (e := aI) rfl) ?_
  refine q1 _ ?_
  refine step (v := vi (a1.length : Int)) (bL (xs := a1) (e := aI) rfl) ?_
  refine q1 _ ?_
  exact nR []
 by_cases hc1 : ((a0.length : Int) != (a1.length : Int)) = true
 ·
  replace h := bx hc1 h
  refine bI (t := ((a0.length : Int) != (a1.length : Int))) rfl hc1 ?_
  refine ax ⟨tab [(4, vb false)], ag [], 0⟩ ?_ ?_
  ·
   refine q1 _ ?_
   exact nR []
  have hh := aH h
  subst hh
  refine bE ?_
  show FQ _ _ _ _
  exact cf (.inr rfl) (bG (v := vb false) rfl rfl) (RV.d trivial)
 ·
  replace h := bz hc1 h
  refine bF (t := ((a0.length : Int) != (a1.length : Int))) rfl hc1 ?_
  refine bN ?_
  refine a9 ?_
  refine ax ⟨tab [(0, aT a0), (1, aT a1), (12, vi (a0.length : Int)), (13, vi 0)], ag [], 0⟩ ?_ ?_
  ·
   refine q1 _ ?_
   refine step (v := vi (a0.length : Int)) (bL (xs := a0) (e := aI) rfl) ?_
   refine q1 _ ?_
   exact nR []
  obtain ⟨q11, hl, h⟩ := aE h
  refine cd ?_
  refine gO (eA (a0.length : Int)) (fun (i2 : Int) (qq : Unit) => ⟨tab [(0, aT a0), (1, aT a1), (12, vi (a0.length : Int)), (13, vi i2)], ag [], 0⟩) 0 (fun (qq : Unit) => ⟨tab [], ag [], 0⟩) b8 eB (r := r) hl (by unfold b8; omega) ?_ ?_ ?_ ?_
  ·
   rintro i2 ⟨⟩ xr7 hinv5 hgo4 h
   show az _ _ _ _ _ ⟨tab [(0, aT a0), (1, aT a1), (12, vi (a0.length : Int)), (13, vi i2)], ag [], 0⟩
   have hc6 : decide (i2 < (a0.length : Int)) = true := decide_eq_true hgo4
   refine ax ⟨tab [(0, aT a0), (1, aT a1), (12, vi (a0.length : Int)), (13, vi i2), (14, vb (decide (i2 < (a0.length : Int))))], ag [], 0⟩ ?_ ?_
   ·
    refine q1 _ ?_
    exact nR []
   refine dI 12 rfl fun hB3 => ?_
   refine a9 ?_
   refine bI (t := decide (i2 < (a0.length : Int))) rfl hc6 ?_
   refine bN ?_
   refine a9 ?_
   refine cd ?_
   refine ax ⟨tab [(0, aT a0), (1, aT a1), (5, vi i2), (12, vi (a0.length : Int)), (13, vi i2)], ag [], 0⟩ ?_ ?_
   ·
    iterate 2 refine q1 _ ?_
    exact nR []
   obtain ⟨x8, hx8, h⟩ := aE h
   obtain ⟨x9, hx9, h⟩ := aE h
   refine ax ⟨tab [(0, aT a0), (1, aT a1), (12, vi (a0.length : Int)), (13, vi i2), (24, vb (!(x8 == x9)))], ag [], 0⟩ ?_ ?_
   ·
    iterate 2 refine q1 _ ?_
    refine step (v := .d (.cptr (some 2) (aI x8) 0)) (bP (xs := a0) (e := aI) hx8 rfl rfl) ?_
    iterate 3 refine q1 _ ?_
    refine step (v := .d (.cptr (some 2) (aI x9) 0)) (bP (xs := a1) (e := aI) hx9 rfl rfl) ?_
    refine q1 _ ?_
    refine step (v := vb (!(x8 == x9))) (nS (neg := true) rfl rfl (oL x8 x9)) ?_
    exact nR []
   by_cases hc10 : (!(x8 == x9)) = true
   ·
    replace h := bx hc10 h
    refine bI (t := (!(x8 == x9))) rfl hc10 ?_
    refine ax ⟨tab [(4, vb false)], ag [], 0⟩ ?_ ?_
    ·
     refine q1 _ ?_
     exact nR []
    obtain ⟨r11, kr11, hr⟩ := eC (o := some false) (g := Br.ret) h
    subst hr
    have h := kr11
    have hh := aH h
    subst hh
    refine bE ?_
    refine And.intro (fun hn => nomatch hn) ?_
    intro hq
    have hq := hq.symm
    subst hq
    show FQ _ _ _ _
    exact cf (.inr rfl) (bG (v := vb false) rfl rfl) (RV.d trivial)
   ·
    replace h := bz hc10 h
    refine bF (t := (!(x8 == x9))) rfl hc10 ?_
    refine bN ?_
    have hh := aH h
    subst hh
    refine b7 ⟨tab [(0, aT a0), (1, aT a1), (12, vi (a0.length : Int)), (13, vi (i2 + 1))], ag [], 0⟩ ?_ ?_
    ·
     refine step (v := vi (i2 + 1)) (dR (dS hinv5 hgo4 hB3) rfl rfl) ?_
     refine q1 _ ?_
     exact nR []
    exact And.intro rfl rfl
  ·
   rintro i2 ⟨⟩ hinv5 hgo4
   show az _ _ _ _ _ ⟨tab [(0, aT a0), (1, aT a1), (12, vi (a0.length : Int)), (13, vi i2)], ag [], 0⟩
   have hc6 : ¬ (decide (i2 < (a0.length : Int)) = true) := fun hq => hgo4 (of_decide_eq_true hq)
   refine ax ⟨tab [(0, aT a0), (1, aT a1), (12, vi (a0.length : Int)), (13, vi i2), (14, vb (decide (i2 < (a0.length : Int))))], ag [], 0⟩ ?_ ?_
   ·
    refine q1 _ ?_
    exact nR []
   refine a9 ?_
   refine bF (t := decide (i2 < (a0.length : Int))) rfl hc6 ?_
   refine az.norm (s0 := ⟨tab [], ag [], 0⟩) (nr []) ?_
   refine dG ?_
   exact And.intro rfl rfl
  ·
   intro r' hq
   subst hq
   exact aH h
  rintro ⟨⟩ rfl
  refine ax ⟨tab [(4, vb true)], ag [], 0⟩ ?_ ?_
  ·
   refine q1 _ ?_
   exact nR []
  have hh := aH h
  subst hh
  refine bE ?_
  show FQ _ _ _ _
  exact cf (.inr rfl) (bG (v := vb true) rfl rfl) (RV.d trivial)
theorem tC {a0 : (List (List br))} {a1 : (List (List br))} {a2 : (List br) → (List br) → Option Bool} {g_a2 : D} (hf_a2 : qZ Try.prog g_a2 (eL (some 2) aI) (eL (some 2) aI) D.bool a2) {r : Bool} (h : j1 a0 a1 a2 = some r) : PCall Try.prog 77 [eL none (eL (some 2) aI) a0, eL none (eL (some 2) aI) a1, g_a2] (.bool r) := by
 obtain ⟨fn_a2, cap_a2, rfl, hc_a2⟩ := hf_a2
 refine PCall.introN sQ (show 3 ≤ 32 by decide) ?_
 refine az.norm (s0 := ⟨tab [(0, .d (eL none (eL (some 2) aI) a0)), (1, .d (eL none (eL (some 2) aI) a1)), (2, .d (.func fn_a2 cap_a2))], ag [], 0⟩) (nr []) ?_
 refine ax ⟨tab [(0, .d (eL none (eL (some 2) aI) a0)), (1, .d (eL none (eL (some 2) aI) a1)), (2, .d (.func fn_a2 cap_a2))], ag [], 0⟩ ?_ ?_
 ·
  refine q1 _ ?_
  exact nR []
 refine a9 ?_
 refine ax ⟨tab [(0, .d (eL none (eL (some 2) aI) a0)), (1, .d (eL none (eL (some 2) aI) a1)), (2, .d (.func fn_a2 cap_a2)), (14, vb ((a0.length : Int) != (a1.length : Int)))], ag [], 0⟩ ?_ ?_
 ·
  refine q1 _ ?_
  refine step (v := vi (a0.length : Int)) (bL (xs := a0) (e := (eL (some 2) aI)) rfl) ?_
  refine q1 _ ?_
  refine step (v := vi (a1.length : Int)) (bL (xs := a1) (e := (eL (some 2) aI)) rfl) ?_
  refine q1 _ ?_
  exact nR []
 by_cases hc1 : ((a0.length : Int) != (a1.length : Int)) = true
 ·
  replace h := bx hc1 h
  refine bI (t := ((a0.length : Int) != (a1.length : Int))) rfl hc1 ?_
  refine ax ⟨tab [(6, vb false)], ag [], 0⟩ ?_ ?_
  ·
   refine q1 _ ?_
   exact nR []
  have hh := aH h
  subst hh
  refine bE ?_
  show FQ _ _ _ _
  exact cf (.inr rfl) (bG (v := vb false) rfl rfl) (RV.d trivial)
 ·
  replace h := bz hc1 h
  refine bF (t := ((a0.length : Int) != (a1.length : Int))) rfl hc1 ?_
  refine bN ?_
  refine a9 ?_
  refine ax ⟨tab [(1, .d (eL none (eL (some 2) aI) a1)), (2, .d (.func fn_a2 cap_a2)), (15, .d (eL none (eL (some 2) aI) a0)), (16, vi (a0.length : Int)), (17, vi 0)], ag [], 0⟩ ?_ ?_
  ·
   refine q1 _ ?_
   refine step (v := vi (a0.length : Int)) (bL (xs := a0) (e := (eL (some 2) aI)) rfl) ?_
   refine q1 _ ?_
   exact nR []
  obtain ⟨q12, hl, h⟩ := aE h
  refine cd ?_
  refine gO (eA (a0.length : Int)) (fun (i2 : Int) (qq : Unit) => ⟨tab [(1, .d (eL none (eL (some 2) aI) a1)), (2, .d (.func fn_a2 cap_a2)), (15, .d (eL none (eL (some 2) aI) a0)), (16, vi (a0.length : Int)), (17, vi i2)], ag [], 0⟩) 0 (fun (qq : Unit) => ⟨tab [], ag [], 0⟩) b8 eB (r := r) hl (by unfold b8; omega) ?_ ?_ ?_ ?_
  ·
   rintro i2 ⟨⟩ xr7 hinv5 hgo4 h
   show az _ _ _ _ _ ⟨tab [(1, .d (eL none (eL (some 2) aI) a1)), (2, .d (.func fn_a2 cap_a2)), (15, .d (eL none (eL (some 2) aI) a0)), (16, vi (a0.length : Int)), (17, vi i2)], ag [], 0⟩
   have hc6 : decide (i2 < (a0.length : Int)) = true := decide_eq_true hgo4
   refine ax ⟨tab [(1, .d (eL none (eL (some 2) aI) a1)), (2, .d (.func fn_a2 cap_a2)), (15, .d (eL none (eL (some 2) aI) a0)), (16, vi (a0.length : Int)), (17, vi i2), (18, vb (decide (i2 < (a0.length : Int))))], ag [], 0⟩ ?_ ?_
   ·
    refine q1 _ ?_
    exact nR []
   refine dI 16 rfl fun hB3 => ?_
   refine a9 ?_
   refine bI (t := decide (i2 < (a0.length : Int))) rfl hc6 ?_
   refine bN ?_
   refine a9 ?_
   refine cd ?_
   obtain ⟨x8, hx8, h⟩ := aE h
   refine ax ⟨tab [(1, .d (eL none (eL (some 2) aI) a1)), (2, .d (.func fn_a2 cap_a2)), (7, vi i2), (8, aT x8), (15, .d (eL none (eL (some 2) aI) a0)), (16, vi (a0.length : Int)), (17, vi i2)], ag [], 0⟩ ?_ ?_
   ·
    refine q1 _ ?_
    refine step (v := .d (.cptr none (eL (some 2) aI x8) 0)) (bP (xs := a0) (e := (eL (some 2) aI)) hx8 rfl rfl) ?_
    iterate 3 refine q1 _ ?_
    exact nR []
   obtain ⟨x9, hx9, h⟩ := aE h
   refine ax ⟨tab [(1, .d (eL none (eL (some 2) aI) a1)), (2, .d (.func fn_a2 cap_a2)), (8, aT x8), (9, aT x9), (15, .d (eL none (eL (some 2) aI) a0)), (16, vi (a0.length : Int)), (17, vi i2)], ag [], 0⟩ ?_ ?_
   ·
    iterate 2 refine q1 _ ?_
    refine step (v := .d (.cptr none (eL (some 2) aI x9) 0)) (bP (xs := a1) (e := (eL (some 2) aI)) hx9 rfl rfl) ?_
    iterate 2 refine q1 _ ?_
    exact nR []
   obtain ⟨x10, hx10, h⟩ := aE h
   refine ax ⟨tab [(1, .d (eL none (eL (some 2) aI) a1)), (2, .d (.func fn_a2 cap_a2)), (15, .d (eL none (eL (some 2) aI) a0)), (16, vi (a0.length : Int)), (17, vi i2), (30, vb (!x10))], ag [], 0⟩ ?_ ?_
   ·
    iterate 3 refine q1 _ ?_
    refine fv (r := .bool x10) rfl (bw (bw bh.nil')) (hc_a2 _ _ _ hx10) ?_
    refine q1 _ ?_
    exact nR []
   by_cases hc11 : (!x10) = true
   ·
    replace h := bx hc11 h
    refine bI (t := (!x10)) rfl hc11 ?_
    refine ax ⟨tab [(6, vb false)], ag [], 0⟩ ?_ ?_
    ·
     refine q1 _ ?_
     exact nR []
    obtain ⟨r12, kr12, hr⟩ := eC (o := some false) (g := Br.ret) h
    subst hr
    have h := kr12
    have hh := aH h
    subst hh
    refine bE ?_
    refine And.intro (fun hn => nomatch hn) ?_
    intro hq
    have hq := hq.symm
    subst hq
    show FQ _ _ _ _
    exact cf (.inr rfl) (bG (v := vb false) rfl rfl) (RV.d trivial)
   ·
    replace h := bz hc11 h
    refine bF (t := (!x10)) rfl hc11 ?_
    refine bN ?_
    have hh := aH h
    subst hh
    refine b7 ⟨tab [(1, .d (eL none (eL (some 2) aI) a1)), (2, .d (.func fn_a2 cap_a2)), (15, .d (eL none (eL (some 2) aI) a0)), (16, vi (a0.length : Int)), (17, vi (i2 + 1))], ag [], 0⟩ ?_ ?_
    ·
     refine step (v := vi (i2 + 1)) (dR (dS hinv5 hgo4 hB3) rfl rfl) ?_
     refine q1 _ ?_
     exact nR []
    exact And.intro rfl rfl
  ·
   rintro i2 ⟨⟩ hinv5 hgo4
   show az _ _ _ _ _ ⟨tab [(1, .d (eL none (eL (some 2) aI) a1)), (2, .d (.func fn_a2 cap_a2)), (15, .d (eL none (eL (some 2) aI) a0)), (16, vi (a0.length : Int)), (17, vi i2)], ag [], 0⟩
   have hc6 : ¬ (decide (i2 < (a0.length : Int)) = true) := fun hq => hgo4 (of_decide_eq_true hq)
   refine ax ⟨tab [(1, .d (eL none (eL (some 2) aI) a1)), (2, .d (.func fn_a2 cap_a2)), (15, .d (eL none (eL (some 2) aI) a0)), (16, vi (a0.length : Int)), (17, vi i2), (18, vb (decide (i2 < (a0.length : Int))))], ag [], 0⟩ ?_ ?_
   ·
    refine q1 _ ?_
    exact nR []
   refine a9 ?_
   refine bF (t := decide (i2 < (a0.length : Int))) rfl hc6 ?_
   refine az.norm (s0 := ⟨tab [], ag [], 0⟩) (nr []) ?_
   refine dG ?_
   exact And.intro rfl rfl
  ·
   intro r' hq
   subst hq
   exact aH h
  rintro ⟨⟩ rfl
  refine ax ⟨tab [(6, vb true)], ag [], 0⟩ ?_ ?_
  ·
   refine q1 _ ?_
   exact nR []
  have hh := aH h
  subst hh
  refine bE ?_
  show FQ _ _ _ _
  exact cf (.inr rfl) (bG (v := vb true) rfl rfl) (RV.d trivial)
theorem tD {a0 : (List br)} {a1 : (List br)} {r : Bool} (h : j3 a0 a1 = some r) : PCall Try.prog 78 [eL (some 2) aI a0, eL (some 2) aI a1] (.bool r) := by
 refine PCall.introN sT (show 2 ≤ 26 by decide) ?_
 refine az.norm (s0 := ⟨tab [(0, aT a0), (1, aT a1)], ag [], 0⟩) (nr []) ?_
 refine ax ⟨tab [(0, aT a0), (1, aT a1)], ag [], 0⟩ ?_ ?_
 ·
  refine q1 _ ?_
  exact nR []
 refine a9 ?_
 refine ax ⟨tab [(0, aT a0), (1, aT a1), (10, vb ((a0.length : Int) != (a1.length : Int)))], ag [], 0⟩ ?_ ?_
 ·
  refine q1 _ ?_
  refine step (v := vi (a0.length : Int)) (bL (xs := a0) (e := aI) rfl) ?_
  refine q1 _ ?_
  refine step (v := vi (a1.length : Int)) (bL (xs := a1) (e := aI) rfl) ?_
  refine q1 _ ?_
  exact nR []
 by_cases hc1 : ((a0.length : Int) != (a1.length : Int)) = true
 ·
  replace h := bx hc1 h
  refine bI (t := ((a0.length : Int) != (a1.length : Int))) rfl hc1 ?_
  refine ax ⟨tab [(4, vb false)], ag [], 0⟩ ?_ ?_
  ·
   refine q1 _ ?_
   exact nR []
  have hh := aH h
  subst hh
  refine bE ?_
  show FQ _ _ _ _
  exact cf (.inr rfl) (bG (v := vb false) rfl rfl) (RV.d trivial)
 ·
  replace h := bz hc1 h
  refine bF (t := ((a0.length : Int) != (a1.length : Int))) rfl hc1 ?_
  refine bN ?_
  refine a9 ?_
  refine ax ⟨tab [(0, aT a0), (1, aT a1), (12, vi (a0.length : Int)), (13, vi 0)], ag [], 0⟩ ?_ ?_
  ·
   refine q1 _ ?_
   refine step (v := vi (a0.length : Int)) (bL (xs := a0) (e := aI) rfl) ?_
   refine q1 _ ?_
   exact nR []
  obtain ⟨q11, hl, h⟩ := aE h
  refine cd ?_
  refine gO (eA (a0.length : Int)) (fun (i2 : Int) (qq : Unit) => ⟨tab [(0, aT a0), (1, aT a1), (12, vi (a0.length : Int)), (13, vi i2)], ag [], 0⟩) 0 (fun (qq : Unit) => ⟨tab [], ag [], 0⟩) b8 eB (r := r) hl (by unfold b8; omega) ?_ ?_ ?_ ?_
  ·
   rintro i2 ⟨⟩ xr7 hinv5 hgo4 h
   show az _ _ _ _ _ ⟨tab [(0, aT a0), (1, aT a1), (12, vi (a0.length : Int)), (13, vi i2)], ag [], 0⟩
   have hc6 : decide (i2 < (a0.length : Int)) = true := decide_eq_true hgo4
   refine ax ⟨tab [(0, aT a0), (1, aT a1), (12, vi (a0.length : Int)), (13, vi i2), (14, vb (decide (i2 < (a0.length : Int))))], ag [], 0⟩ ?_ ?_
   ·
    refine q1 _ ?_
    exact nR []
   refine dI 12 rfl fun hB3 => ?_
   refine a9 ?_
   refine bI (t := decide (i2 < (a0.length : Int))) rfl hc6 ?_
   refine bN ?_
   refine a9 ?_
   refine cd ?_
   refine ax ⟨tab [(0, aT a0), (1, aT a1), (5, vi i2), (12, vi (a0.length : Int)), (13, vi i2)], ag [], 0⟩ ?_ ?_
   ·
    iterate 2 refine q1 _ ?_
    exact nR []
   obtain ⟨x8, hx8, h⟩ := aE h
   obtain ⟨x9, hx9, h⟩ := aE h
   refine ax ⟨tab [(0, aT a0), (1, aT a1), (12, vi (a0.length : Int)), (13, vi i2), (24, vb (!(x8 == x9)))], ag [], 0⟩ ?_ ?_
   ·
    iterate 2 refine q1 _ ?_
    refine step (v := .d (.cptr (some 2) (aI x8) 0)) (bP (xs := a0) (e := aI) hx8 rfl rfl) ?_
    iterate 3 refine q1 _ ?_
    refine step (v := .d (.cptr (some 2) (aI x9) 0)) (bP (xs := a1) (e := aI) hx9 rfl rfl) ?_
    refine q1 _ ?_
    refine step (v := vb (!(x8 == x9))) (nS (neg := true) rfl rfl (oL x8 x9)) ?_
    exact nR []
   by_cases hc10 : (!(x8 == x9)) = true
   ·
    replace h := bx hc10 h
    refine bI (t := (!(x8 == x9))) rfl hc10 ?_
    refine ax ⟨tab [(4, vb false)], ag [], 0⟩ ?_ ?_
    ·
     refine q1 _ ?_
     exact nR []
    obtain ⟨r11, kr11, hr⟩ := eC (o := some false) (g := Br.ret) h
    subst hr
    have h := kr11
    have hh := aH h
    subst hh
    refine bE ?_
    refine And.intro (fun hn => nomatch hn) ?_
    intro hq
    have hq := hq.symm
    subst hq
    show FQ _ _ _ _
    exact cf (.inr rfl) (bG (v := vb false) rfl rfl) (RV.d trivial)
   ·
    replace h := bz hc10 h
    refine bF (t := (!(x8 == x9))) rfl hc10 ?_
    refine bN ?_
    have hh := aH h
    subst hh
    refine b7 ⟨tab [(0, aT a0), (1, aT a1), (12, vi (a0.length : Int)), (13, vi (i2 + 1))], ag [], 0⟩ ?_ ?_
    ·
     refine step (v := vi (i2 + 1)) (dR (dS hinv5 hgo4 hB3) rfl rfl) ?_
     refine q1 _ ?_
     exact nR []
    exact And.intro rfl rfl
  ·
   rintro i2 ⟨⟩ hinv5 hgo4
   show az _ _ _ _ _ ⟨tab [(0, aT a0), (1, aT a1), (12, vi (a0.length : Int)), (13, vi i2)], ag [], 0⟩
   have hc6 : ¬ (decide (i2 < (a0.length : Int)) = true) := fun hq => hgo4 (of_decide_eq_true hq)
   refine ax ⟨tab [(0, aT a0), (1, aT a1), (12, vi (a0.length : Int)), (13, vi i2), (14, vb (decide (i2 < (a0.length : Int))))], ag [], 0⟩ ?_ ?_
   ·
    refine q1 _ ?_
    exact nR []
   refine a9 ?_
   refine bF (t := decide (i2 < (a0.length : Int))) rfl hc6 ?_
   refine az.norm (s0 := ⟨tab [], ag [], 0⟩) (nr []) ?_
   refine dG ?_
   exact And.intro rfl rfl
  ·
   intro r' hq
   subst hq
   exact aH h
  rintro ⟨⟩ rfl
  refine ax ⟨tab [(4, vb true)], ag [], 0⟩ ?_ ?_
  ·
   refine q1 _ ?_
   exact nR []
  have hh := aH h
  subst hh
  refine bE ?_
  show FQ _ _ _ _
  exact cf (.inr rfl) (bG (v := vb true) rfl rfl) (RV.d trivial)
theorem oN {a0 : al} {a1 : al} {r : Bool} (h : g9 a0 a1 = some r) : PCall Try.prog 51 [am a0, am a1] (.bool r) := by
 refine PCall.introN sV (show 2 ≤ 17 by decide) ?_
 refine az.norm (s0 := ⟨tab [(0, dF a0), (1, dF a1)], ag [], 0⟩) (nr []) ?_
 refine ax ⟨tab [(2, fi a0), (3, fi a1)], ag [], 0⟩ ?_ ?_
 ·
  iterate 3 refine q1 _ ?_
  exact nR []
 obtain ⟨r1, hr1, h⟩ := aE h
 obtain ⟨y4, hv, h⟩ := aE h
 refine ax ⟨tab [(4, vb y4)], ag [], 0⟩ ?_ ?_
 ·
  iterate 4 refine q1 _ ?_
  refine cL (r := .bool r1) (bw (bw bh.nil')) (tB hr1) ?_
  refine q1 _ ?_
  by_cases hg2 : r1 = true
  ·
   replace hv := bx hg2 hv
   obtain ⟨r3, hr3, hv⟩ := aE hv
   refine qG _ hg2 ?_
   refine q1 _ ?_
   refine qG _ hg2 ?_
   refine q1 _ ?_
   refine qG _ hg2 ?_
   refine q1 _ ?_
   refine qG _ hg2 ?_
   refine q1 _ ?_
   refine qG _ hg2 ?_
   refine cL (r := .bool r3) (bw (bw (bw bh.nil'))) (tC ⟨78, [], rfl, fun _ _ _ h => tD h⟩ hr3) ?_
   refine step (v := vb r3) (cS (b := r1) rfl hg2 rfl) ?_
   refine q1 _ ?_
   have hh := aH hv
   subst hh
   exact nR []
  ·
   replace hv := bz hg2 hv
   iterate 5 refine qX _ hg2 ?_
   refine step (v := vb false) (ba (b := r1) rfl hg2 rfl) ?_
   refine q1 _ ?_
   have hh := aH hv
   subst hh
   exact nR []
 have hh := aH h
 subst hh
 refine bE ?_
 show FQ _ _ _ _
 exact cf (.inr rfl) (bG (v := vb y4) rfl rfl) (RV.d trivial)
theorem tE {a0 : al} {a1 : al} {r : Bool} (h : hE a0 a1 = some r) : PCall Try.prog 94 [am a0, .cptr (some 2) (am a1) 0] (.bool r) := by
 refine PCall.introN sX (show 2 ≤ 7 by decide) ?_
 refine az.norm (s0 := ⟨tab [(0, dF a0), (1, fi a1)], ag [], 0⟩) (nr []) ?_
 refine ax ⟨tab [(1, fi a1), (2, fi a0)], ag [], 0⟩ ?_ ?_
 ·
  iterate 2 refine q1 _ ?_
  exact nR []
 obtain ⟨r1, hr1, h⟩ := aE h
 refine ax ⟨tab [(3, vb r1)], ag [], 0⟩ ?_ ?_
 ·
  iterate 2 refine q1 _ ?_
  refine cL (r := .bool r1) (bw (bw bh.nil')) (oN hr1) ?_
  refine q1 _ ?_
  exact nR []
 have hh := aH h
 subst hh
 refine bE ?_
 show FQ _ _ _ _
 exact cf (.inr rfl) (bG (v := vb r1) rfl rfl) (RV.d trivial)
theorem tF {a0 : (List al)} {a1 : al → Option Bool} {g_a1 : D} (hf_a1 : qY Try.prog g_a1 am D.bool a1) {r : Int} (h : iX a0 a1 = some r) : PCall Try.prog 93 [eL (some 2) am a0, g_a1] (.int .i64 r) := by
 obtain ⟨fn_a1, cap_a1, rfl, hc_a1⟩ := hf_a1
 refine PCall.introN s6 (show 2 ≤ 19 by decide) ?_
 refine az.norm (s0 := ⟨tab [(0, aC a0), (1, .d (.func fn_a1 cap_a1))], ag [], 0⟩) (nr []) ?_
 refine ax ⟨tab [(0, aC a0), (1, .d (.func fn_a1 cap_a1))], ag [], 0⟩ ?_ ?_
 ·
  refine q1 _ ?_
  exact nR []
 refine a9 ?_
 refine ax ⟨tab [(0, aC a0), (1, .d (.func fn_a1 cap_a1)), (7, vi (a0.length : Int)), (8, vi 0)], ag [], 0⟩ ?_ ?_
 ·
  refine q1 _ ?_
  refine step (v := vi (a0.length : Int)) (bL (xs := a0) (e := am) rfl) ?_
  refine q1 _ ?_
  exact nR []
 obtain ⟨q10, hl, h⟩ := aE h
 refine cd ?_
 refine gO (eA (a0.length : Int)) (fun (i1 : Int) (qq : Unit) => ⟨tab [(0, aC a0), (1, .d (.func fn_a1 cap_a1)), (7, vi (a0.length : Int)), (8, vi i1)], ag [], 0⟩) 0 (fun (qq : Unit) => ⟨tab [], ag [], 0⟩) b8 eB (r := r) hl (by unfold b8; omega) ?_ ?_ ?_ ?_
 ·
  rintro i1 ⟨⟩ xr6 hinv4 hgo3 h
  show az _ _ _ _ _ ⟨tab [(0, aC a0), (1, .d (.func fn_a1 cap_a1)), (7, vi (a0.length : Int)), (8, vi i1)], ag [], 0⟩
  have hc5 : decide (i1 < (a0.length : Int)) = true := decide_eq_true hgo3
  refine ax ⟨tab [(0, aC a0), (1, .d (.func fn_a1 cap_a1)), (7, vi (a0.length : Int)), (8, vi i1), (9, vb (decide (i1 < (a0.length : Int))))], ag [], 0⟩ ?_ ?_
  ·
   refine q1 _ ?_
   exact nR []
  refine dI 7 rfl fun hB2 => ?_
  refine a9 ?_
  refine bI (t := decide (i1 < (a0.length : Int))) rfl hc5 ?_
  refine bN ?_
  refine a9 ?_
  refine cd ?_
  refine ax ⟨tab [(0, aC a0), (1, .d (.func fn_a1 cap_a1)), (5, vi i1), (7, vi (a0.length : Int)), (8, vi i1)], ag [], 0⟩ ?_ ?_
  ·
   iterate 2 refine q1 _ ?_
   exact nR []
  obtain ⟨x7, hx7, h⟩ := aE h
  obtain ⟨x8, hx8, h⟩ := aE h
  refine ax ⟨tab [(0, aC a0), (1, .d (.func fn_a1 cap_a1)), (5, vi i1), (7, vi (a0.length : Int)), (8, vi i1), (16, vb x8)], ag [], 0⟩ ?_ ?_
  ·
   iterate 3 refine q1 _ ?_
   refine step (v := fi x7) (bP (xs := a0) (e := am) hx7 rfl rfl) ?_
   refine q1 _ ?_
   refine fv (r := .bool x8) rfl (bw bh.nil') (hc_a1 _ _ hx8) ?_
   exact nR []
  by_cases hc9 : x8 = true
  ·
   replace h := bx hc9 h
   refine bI (t := x8) rfl hc9 ?_
   refine ax ⟨tab [(4, vi i1)], ag [], 0⟩ ?_ ?_
   ·
    iterate 2 refine q1 _ ?_
    exact nR []
   obtain ⟨r10, kr10, hr⟩ := eC (o := some i1) (g := Br.ret) h
   subst hr
   have h := kr10
   have hh := aH h
   subst hh
   refine bE ?_
   refine And.intro (fun hn => nomatch hn) ?_
   intro hq
   have hq := hq.symm
   subst hq
   show FQ _ _ _ _
   exact cf (.inr rfl) (bG (v := vi i1) rfl rfl) (RV.d trivial)
  ·
   replace h := bz hc9 h
   refine bF (t := x8) rfl hc9 ?_
   refine bN ?_
   have hh := aH h
   subst hh
   refine b7 ⟨tab [(0, aC a0), (1, .d (.func fn_a1 cap_a1)), (7, vi (a0.length : Int)), (8, vi (i1 + 1))], ag [], 0⟩ ?_ ?_
   ·
    refine step (v := vi (i1 + 1)) (dR (dS hinv4 hgo3 hB2) rfl rfl) ?_
    refine q1 _ ?_
    exact nR []
   exact And.intro rfl rfl
 ·
  rintro i1 ⟨⟩ hinv4 hgo3
  show az _ _ _ _ _ ⟨tab [(0, aC a0), (1, .d (.func fn_a1 cap_a1)), (7, vi (a0.length : Int)), (8, vi i1)], ag [], 0⟩
  have hc5 : ¬ (decide (i1 < (a0.length : Int)) = true) := fun hq => hgo3 (of_decide_eq_true hq)
  refine ax ⟨tab [(0, aC a0), (1, .d (.func fn_a1 cap_a1)), (7, vi (a0.length : Int)), (8, vi i1), (9, vb (decide (i1 < (a0.length : Int))))], ag [], 0⟩ ?_ ?_
  ·
   refine q1 _ ?_
   exact nR []
  refine a9 ?_
  refine bF (t := decide (i1 < (a0.length : Int))) rfl hc5 ?_
  refine az.norm (s0 := ⟨tab [], ag [], 0⟩) (nr []) ?_
  refine dG ?_
  exact And.intro rfl rfl
 ·
  intro r' hq
  subst hq
  exact aH h
 rintro ⟨⟩ rfl
 refine ax ⟨tab [(4, vi (-1))], ag [], 0⟩ ?_ ?_
 ·
  refine q1 _ ?_
  exact nR []
 have hh := aH h
 subst hh
 refine bE ?_
 show FQ _ _ _ _
 exact cf (.inr rfl) (bG (v := vi (-1)) rfl rfl) (RV.d trivial)
def bA (k : List al) (o0 o1 : List Int) : List (Nat × aK) := [(0, .var [.loc 1 0 o0.length, .loc 2 0 o1.length]), (1, .lst false none (o0.map (D.int .i64))), (2, .lst false none (o1.map (D.int .i64))), (3, .lst false (some 2) (k.map am))]
def iS (r : al) : List (Nat × aK) := [(4, .var [aT r.Match, .d (eL none (eL (some 2) aI) r.Acts)])]
def lJ : bk := .ops false [
 ⟨some 37, .mov (.t 4), none⟩,
 ⟨some 38, .mov (.t 5), none⟩,
 ⟨some 39, .mov (.t 4), none⟩,
 ⟨some 40, .mov (.t 5), none⟩,
 ⟨some 41, .iaddr none (.t 39) (.t 40), none⟩,
 ⟨some 42, .load none (.t 41), none⟩,
 ⟨some 43, .mov (.t 9), none⟩,
 ⟨some 44, .bsliceI none [(.t 43)], none⟩,
 ⟨some 45, .append none (.t 42) (.t 44) false, none⟩,
 ⟨some 46, .iaddr none (.t 37) (.t 38), none⟩,
 ⟨none, .store none (.t 46) (.t 45), none⟩]
def tG : bk :=
 (.seq (.ops false [
  ⟨some 23, .bin .lss (.t 22) (.t 21), none⟩])
  (.seq (.cond (.t 23)
   (.skip)
   (.exit 2))
  (.seq (.block 3 (.seq (.ops false [
   ⟨some 24, .iaddr (some 2) (.t 20) (.t 22), none⟩,
   ⟨some 25, .load (some 2) (.t 24), none⟩,
   ⟨some 8, .alloc [.vec (some 2) [], .vec none []], none⟩,
   ⟨none, .store (some 2) (.t 8) (.t 25), none⟩])
   (.seq (.ops false [
    ⟨some 26, .mov (.t 3), none⟩,
    ⟨some 27, .mkfunc 94 [(.t 8)], none⟩,
    ⟨some 28, .call true 93 [(.t 26), (.t 27)], none⟩,
    ⟨some 9, .mov (.t 28), none⟩])
   (.seq (.seq (.ops false [
    ⟨some 29, .mov (.t 9), none⟩,
    ⟨some 30, .bin .lss (.t 29) (.c (.int .i64 0)), none⟩])
    (.cond (.t 30)
    (.seq (.ops false [
     ⟨some 31, .mov (.t 3), none⟩,
     ⟨some 32, .len (.t 31), none⟩,
     ⟨some 9, .mov (.t 32), none⟩])
     (.ops false [
      ⟨some 33, .mov (.t 3), none⟩,
      ⟨some 34, .load (some 2) (.t 8), none⟩,
      ⟨some 35, .bsliceI (some 2) [(.t 34)], none⟩,
      ⟨some 36, .append (some 2) (.t 33) (.t 35) false, none⟩,
      ⟨some 3, .mov (.t 36), none⟩]))
    (.skip)))
   lJ))))
  (.ops false [
   ⟨some 47, .bin .add (.t 22) (.c (.int .i64 1)), none⟩,
   ⟨some 22, .mov (.t 47), none⟩]))))
def tH : bk :=
 (.seq (.ops false [
  ⟨some 16, .bin .lss (.t 15) (.t 14), none⟩])
  (.seq (.cond (.t 16)
   (.skip)
   (.exit 0))
  (.seq (.block 1 (.seq (.ops false [
   ⟨some 17, .mov (.t 15), none⟩,
   ⟨some 18, .iaddr none (.t 13) (.t 15), none⟩,
   ⟨some 19, .load none (.t 18), none⟩,
   ⟨some 5, .mov (.t 17), none⟩,
   ⟨some 6, .mov (.t 19), none⟩])
   (.seq (.ops false [
    ⟨some 20, .mov (.t 6), none⟩,
    ⟨some 21, .len (.t 20), none⟩,
    ⟨some 22, .mov (.c (.int .i64 0)), none⟩])
   (.block 2 (.loop tG)))))
  (.ops false [
   ⟨some 48, .bin .add (.t 15) (.c (.int .i64 1)), none⟩,
   ⟨some 15, .mov (.t 48), none⟩]))))
def tI : cm := .mk 50
 (.seq (.ops false [
  ⟨some 2, .mov (.c (.vec none [])), none⟩])
  (.seq (.ops false [
   ⟨some 3, .mov (.c (.nils)), none⟩])
  (.seq (.ops false [
   ⟨some 10, .mov (.t 0), none⟩,
   ⟨some 11, .len (.t 10), none⟩,
   ⟨some 12, .mkslV .nils (.t 11) (.t 11), none⟩,
   ⟨some 4, .mov (.t 12), none⟩])
  (.seq (.seq (.ops false [
   ⟨some 13, .mov (.t 0), none⟩,
   ⟨some 14, .len (.t 13), none⟩,
   ⟨some 15, .mov (.c (.int .i64 0)), none⟩])
   (.block 0 (.loop tH)))
  (.seq (.ops false [
   ⟨some 49, .mov (.t 4), none⟩,
   ⟨some 2, .mov (.t 49), none⟩])
  (.ret))))))
 [.t 2]
set_option maxRecDepth 100000 in
theorem tJ : cn Try.prog 71 tI = true := by kernel_rfl
theorem tK {a0 : List (List al)} {x8 : List al} {k : List al} {o0 o1 o : List Int} {n i10 i2 : Int} (hi : i2 = 0) (ho : cU o0 [n] = some o) : az Try.prog 50 0 lJ (JN ⟨tab [(3, .loc 3 0 k.length), (4, .loc 0 0 2), (5, vi i2), (13, .d (eL none (eL (some 2) am) a0)), (14, vi (a0.length : Int)), (15, vi i2), (20, aC x8), (21, vi (x8.length : Int)), (22, vi i10)], ag (bA k o o1), 4⟩) ⟨tab [(3, .loc 3 0 k.length), (4, .loc 0 0 2), (5, vi i2), (9, vi n), (13, .d (eL none (eL (some 2) am) a0)), (14, vi (a0.length : Int)), (15, vi i2), (20, aC x8), (21, vi (x8.length : Int)), (22, vi i10)], ag (bA k o0 o1), 4⟩ := by
 subst hi
 refine b7 ⟨tab [(3, .loc 3 0 k.length), (4, .loc 0 0 2), (5, vi 0), (13, .d (eL none (eL (some 2) am) a0)), (14, vi (a0.length : Int)), (15, vi 0), (20, aC x8), (21, vi (x8.length : Int)), (22, vi i10)], ag (bA k o o1), 4⟩ ?_ ⟨rfl, rfl⟩
 iterate 4 refine q1 _ ?_
 refine step (v := .ptr 0 0 0) (jT (m := 2) rfl rfl rfl ⟨by decide, by decide⟩ rfl) ?_
 iterate 3 refine q1 _ ?_
 refine step (v := .loc 4 0 o.length) (σ' := aj (aj (ag (bA k o0 o1)) 1 none) 4 (some (.lst false none (o.map (D.int .i64))))) (n' := 5) (fy (xs := o0) (ys := [n]) (e := (D.int .i64)) ho rfl rfl rfl (fx (xs := [n]) (e := (D.int .i64)) rfl)) ?_
 refine step (v := .ptr 0 0 0) (jT (m := 2) rfl rfl rfl ⟨by decide, by decide⟩ rfl) ?_
 refine step (v := V.undef) (σ' := aj (aj (aj (ag (bA k o0 o1)) 1 none) 4 (some (.lst false none (o.map (D.int .i64))))) 0 (some (.var [.loc 4 0 o.length, .loc 2 0 o1.length]))) (n' := 5) rfl ?_
 exact nR [0, 4, 2, 3]
theorem tL {a0 : List (List al)} {x8 : List al} {k : List al} {o0 o1 o : List Int} {n i10 i2 : Int} (hi : i2 = 1) (ho : cU o1 [n] = some o) : az Try.prog 50 0 lJ (JN ⟨tab [(3, .loc 3 0 k.length), (4, .loc 0 0 2), (5, vi i2), (13, .d (eL none (eL (some 2) am) a0)), (14, vi (a0.length : Int)), (15, vi i2), (20, aC x8), (21, vi (x8.length : Int)), (22, vi i10)], ag (bA k o0 o), 4⟩) ⟨tab [(3, .loc 3 0 k.length), (4, .loc 0 0 2), (5, vi i2), (9, vi n), (13, .d (eL none (eL (some 2) am) a0)), (14, vi (a0.length : Int)), (15, vi i2), (20, aC x8), (21, vi (x8.length : Int)), (22, vi i10)], ag (bA k o0 o1), 4⟩ := by
 subst hi
 refine b7 ⟨tab [(3, .loc 3 0 k.length), (4, .loc 0 0 2), (5, vi 1), (13, .d (eL none (eL (some 2) am) a0)), (14, vi (a0.length : Int)), (15, vi 1), (20, aC x8), (21, vi (x8.length : Int)), (22, vi i10)], ag (bA k o0 o), 4⟩ ?_ ⟨rfl, rfl⟩
 iterate 4 refine q1 _ ?_
 refine step (v := .ptr 0 1 0) (jT (m := 2) rfl rfl rfl ⟨by decide, by decide⟩ rfl) ?_
 iterate 3 refine q1 _ ?_
 refine step (v := .loc 4 0 o.length) (σ' := aj (aj (ag (bA k o0 o1)) 2 none) 4 (some (.lst false none (o.map (D.int .i64))))) (n' := 5) (fy (xs := o1) (ys := [n]) (e := (D.int .i64)) ho rfl rfl rfl (fx (xs := [n]) (e := (D.int .i64)) rfl)) ?_
 refine step (v := .ptr 0 1 0) (jT (m := 2) rfl rfl rfl ⟨by decide, by decide⟩ rfl) ?_
 refine step (v := V.undef) (σ' := aj (aj (aj (ag (bA k o0 o1)) 2 none) 4 (some (.lst false none (o.map (D.int .i64))))) 0 (some (.var [.loc 1 0 o0.length, .loc 4 0 o.length]))) (n' := 5) rfl ?_
 exact nR [0, 1, 4, 3]
theorem tM {σ : au} {o0 o1 : List Int} (h1 : σ 1 = some (.lst false none (o0.map (D.int .i64)))) (h2 : σ 2 = some (.lst false none (o1.map (D.int .i64)))) : bu ([V.loc 1 0 o0.length, .loc 2 0 o1.length].map (c4 σ)) = some ([o0, o1].map (eL none (D.int .i64))) := by
 have e1 : c4 σ (V.loc 1 0 o0.length) = some (.vec none (o0.map (D.int .i64))) := jD h1 (by simp)
 have e2 : c4 σ (V.loc 2 0 o1.length) = some (.vec none (o1.map (D.int .i64))) := jD h2 (by simp)
 simp only [List.map_cons, List.map_nil, e1, e2, bu]
 rfl
theorem tN {a0 : (List (List al))} {r : (List (List Int))} (h : hH a0 = some r) : PCall Try.prog 71 [eL none (eL (some 2) am) a0] (eL none (eL none (D.int .i64)) r) := by
 unfold hH at h
 split at h
 ·
  rename_i h2
  refine PCall.introN tJ (show 1 ≤ 50 by decide) ?_
  refine az.norm (s0 := ⟨tab [(0, .d (eL none (eL (some 2) am) a0))], ag [], 0⟩) (nr []) ?_
  refine ax ⟨tab [(0, .d (eL none (eL (some 2) am) a0))], ag [], 0⟩ ?_ ?_
  ·
   refine q1 _ ?_
   exact nR []
  refine ax ⟨tab [(0, .d (eL none (eL (some 2) am) a0)), (3, .d (.nils))], ag [], 0⟩ ?_ ?_
  ·
   refine q1 _ ?_
   exact nR []
  refine ax ⟨tab [(0, .d (eL none (eL (some 2) am) a0)), (3, .loc 3 0 0), (4, .loc 0 0 2)], ag (bA [] [] []), 4⟩ ?_ ?_
  ·
   refine q1 _ ?_
   refine step (v := vi (a0.length : Int)) (bL (xs := a0) (e := (eL (some 2) am)) rfl) ?_
   refine step (v := .loc 0 0 2) (σ' := aj (ag []) 0 (some (.var [.d .nils, .d .nils]))) (n' := 1) (sy (l := (a0.length : Int)) rfl rfl ⟨by omega, by omega⟩ (by rw [h2]; rfl) (by omega)) ?_
   refine q1 _ ?_
   refine aV.nil' ?_
   refine a8.trans (s1 := ⟨tab [(0, .d (eL none (eL (some 2) am) a0)), (3, .d (.nils)), (4, .loc 0 0 2)], ag [(0, .var [.d .nils, .d .nils])], 1⟩) (nr [0]) ?_
   refine a8.trans (k6 0 0 false none rfl rfl (show 0 ≠ 1 by decide)) ?_
   refine a8.trans (s1 := ⟨tab [(0, .d (eL none (eL (some 2) am) a0)), (3, .d (.nils)), (4, .loc 0 0 2)], ag [(0, .var [.loc 1 0 0, .d .nils]), (1, .lst false none [])], 2⟩) (nr [0, 1]) ?_
   refine a8.trans (k6 0 1 false none rfl rfl (show 0 ≠ 2 by decide)) ?_
   refine a8.trans (s1 := ⟨tab [(0, .d (eL none (eL (some 2) am) a0)), (3, .d (.nils)), (4, .loc 0 0 2)], ag [(0, .var [.loc 1 0 0, .loc 2 0 0]), (1, .lst false none []), (2, .lst false none [])], 3⟩) (nr [0, 1, 2]) ?_
   exact a8.trans (nT 3 false (some 2) rfl) (nr [0, 1, 2, 3])
  refine a9 ?_
  refine ax ⟨tab [(3, .loc 3 0 0), (4, .loc 0 0 2), (13, .d (eL none (eL (some 2) am) a0)), (14, vi (a0.length : Int)), (15, vi 0)], ag (bA [] [] []), 4⟩ ?_ ?_
  ·
   refine q1 _ ?_
   refine step (v := vi (a0.length : Int)) (bL (xs := a0) (e := (eL (some 2) am)) rfl) ?_
   refine q1 _ ?_
   exact nR [0, 1, 2, 3]
  obtain ⟨z24, hl, h⟩ := aE h
  refine cd ?_
  refine gN (eA (a0.length : Int)) (fun (i2 : Int) (qq : (List al) × (List Int) × (List Int)) => ⟨tab [(3, .loc 3 0 qq.1.length), (4, .loc 0 0 2), (13, .d (eL none (eL (some 2) am) a0)), (14, vi (a0.length : Int)), (15, vi i2)], ag (bA qq.1 qq.2.1 qq.2.2), 4⟩) 0 (fun qq => ⟨tab [(4, .loc 0 0 2)], ag (bA qq.1 qq.2.1 qq.2.2), 4⟩) b8 eB hl (by unfold b8; omega) ?_ ?_ ?_
  ·
   rintro i2 ⟨l1, o0, o1⟩ xr7 hinv5 hgo4 h
   show az _ _ _ _ _ ⟨tab [(3, .loc 3 0 l1.length), (4, .loc 0 0 2), (13, .d (eL none (eL (some 2) am) a0)), (14, vi (a0.length : Int)), (15, vi i2)], ag (bA l1 o0 o1), 4⟩
   have hc6 : decide (i2 < (a0.length : Int)) = true := decide_eq_true hgo4
   refine ax ⟨tab [(3, .loc 3 0 l1.length), (4, .loc 0 0 2), (13, .d (eL none (eL (some 2) am) a0)), (14, vi (a0.length : Int)), (15, vi i2), (16, vb (decide (i2 < (a0.length : Int))))], ag (bA l1 o0 o1), 4⟩ ?_ ?_
   ·
    refine q1 _ ?_
    exact nR [0, 1, 2, 3]
   refine dI 14 rfl fun hB3 => ?_
   refine a9 ?_
   refine bI (t := decide (i2 < (a0.length : Int))) rfl hc6 ?_
   refine bN ?_
   refine a9 ?_
   refine cd ?_
   obtain ⟨x8, hx8, h⟩ := aE h
   have hi2 : i2 = 0 ∨ i2 = 1 := by have := (nO hx8).1; rw [h2] at hgo4; omega
   refine ax ⟨tab [(3, .loc 3 0 l1.length), (4, .loc 0 0 2), (5, vi i2), (6, aC x8), (13, .d (eL none (eL (some 2) am) a0)), (14, vi (a0.length : Int)), (15, vi i2)], ag (bA l1 o0 o1), 4⟩ ?_ ?_
   ·
    refine q1 _ ?_
    refine step (v := .d (.cptr none (eL (some 2) am x8) 0)) (bP (xs := a0) (e := (eL (some 2) am)) hx8 rfl rfl) ?_
    iterate 3 refine q1 _ ?_
    exact nR [0, 1, 2, 3]
   refine ax ⟨tab [(3, .loc 3 0 l1.length), (4, .loc 0 0 2), (5, vi i2), (13, .d (eL none (eL (some 2) am) a0)), (14, vi (a0.length : Int)), (15, vi i2), (20, aC x8), (21, vi (x8.length : Int)), (22, vi 0)], ag (bA l1 o0 o1), 4⟩ ?_ ?_
   ·
    refine q1 _ ?_
    refine step (v := vi (x8.length : Int)) (bL (xs := x8) (e := am) rfl) ?_
    refine q1 _ ?_
    exact nR [0, 1, 2, 3]
   obtain ⟨z22, hl, h⟩ := aE h
   refine cd ?_
   refine gN (eA (x8.length : Int)) (fun (i10 : Int) (qq : (List al) × (List Int) × (List Int)) => ⟨tab [(3, .loc 3 0 qq.1.length), (4, .loc 0 0 2), (5, vi i2), (13, .d (eL none (eL (some 2) am) a0)), (14, vi (a0.length : Int)), (15, vi i2), (20, aC x8), (21, vi (x8.length : Int)), (22, vi i10)], ag (bA qq.1 qq.2.1 qq.2.2), 4⟩) 2 (fun qq => ⟨tab [(3, .loc 3 0 qq.1.length), (4, .loc 0 0 2), (13, .d (eL none (eL (some 2) am) a0)), (14, vi (a0.length : Int)), (15, vi i2)], ag (bA qq.1 qq.2.1 qq.2.2), 4⟩) b8 eB hl (by unfold b8; omega) ?_ ?_ ?_
   ·
    rintro i10 ⟨l9, o0, o1⟩ xr15 hinv13 hgo12 h
    show az _ _ _ _ _ ⟨tab [(3, .loc 3 0 l9.length), (4, .loc 0 0 2), (5, vi i2), (13, .d (eL none (eL (some 2) am) a0)), (14, vi (a0.length : Int)), (15, vi i2), (20, aC x8), (21, vi (x8.length : Int)), (22, vi i10)], ag (bA l9 o0 o1), 4⟩
    have hc14 : decide (i10 < (x8.length : Int)) = true := decide_eq_true hgo12
    refine ax ⟨tab [(3, .loc 3 0 l9.length), (4, .loc 0 0 2), (5, vi i2), (13, .d (eL none (eL (some 2) am) a0)), (14, vi (a0.length : Int)), (15, vi i2), (20, aC x8), (21, vi (x8.length : Int)), (22, vi i10), (23, vb (decide (i10 < (x8.length : Int))))], ag (bA l9 o0 o1), 4⟩ ?_ ?_
    ·
     refine q1 _ ?_
     exact nR [0, 1, 2, 3]
    refine dI 21 rfl fun hB11 => ?_
    refine a9 ?_
    refine bI (t := decide (i10 < (x8.length : Int))) rfl hc14 ?_
    refine bN ?_
    refine a9 ?_
    refine cd ?_
    obtain ⟨x16, hx16, h⟩ := aE h
    refine ax ⟨tab [(3, .loc 3 0 l9.length), (4, .loc 0 0 2), (5, vi i2), (8, .ptr 4 0 0), (13, .d (eL none (eL (some 2) am) a0)), (14, vi (a0.length : Int)), (15, vi i2), (20, aC x8), (21, vi (x8.length : Int)), (22, vi i10)], ag (bA l9 o0 o1 ++ iS x16), 5⟩ ?_ ?_
    ·
     refine step (v := fi x16) (bP (xs := x8) (e := am) hx16 rfl rfl) ?_
     iterate 2 refine q1 _ ?_
     refine step (v := V.undef) (σ' := (aj (aj (ag (bA l9 o0 o1)) 4 (some (.var [aT [], .d (eL none (eL (some 2) aI) [])]))) 4 (some (.var [aT x16.Match, .d (eL none (eL (some 2) aI) x16.Acts)])))) (n' := 5) rfl ?_
     exact nR [0, 1, 2, 3, 4]
    obtain ⟨r17, hr17, h⟩ := aE h
    refine ax ⟨tab [(3, .loc 3 0 l9.length), (4, .loc 0 0 2), (5, vi i2), (8, .ptr 4 0 0), (9, vi r17), (13, .d (eL none (eL (some 2) am) a0)), (14, vi (a0.length : Int)), (15, vi i2), (20, aC x8), (21, vi (x8.length : Int)), (22, vi i10)], ag (bA l9 o0 o1 ++ iS x16), 5⟩ ?_ ?_
    ·
     iterate 2 refine q1 _ ?_
     refine jz (v := vi r17) (σ' := _) (n' := _) (rd (tF ⟨94, [.cptr (some 2) (am x16) 0], rfl, fun _ _ h => tE h⟩ hr17) rfl (cw.c (rk (xs := l9) (e := am) rfl rfl) (cw.c (rq (cw.c (rm rfl (cw.c (.d _) (cw.c (.d _) cw.nil0))) cw.nil0)) cw.nil0))) (Nat.le_refl _) ?_
     refine q1 _ ?_
     exact nR [0, 1, 2, 3, 4]
    obtain ⟨ln, hv, h⟩ := aE h
    refine kY ⟨tab [(3, .loc 3 0 ln.1.length), (4, .loc 0 0 2), (5, vi i2), (9, vi ln.2), (13, .d (eL none (eL (some 2) am) a0)), (14, vi (a0.length : Int)), (15, vi i2), (20, aC x8), (21, vi (x8.length : Int)), (22, vi i10)], ag (bA ln.1 o0 o1), 4⟩ ?_ ?_
    ·
     refine ax ⟨tab [(3, .loc 3 0 l9.length), (4, .loc 0 0 2), (5, vi i2), (8, .ptr 4 0 0), (9, vi r17), (13, .d (eL none (eL (some 2) am) a0)), (14, vi (a0.length : Int)), (15, vi i2), (20, aC x8), (21, vi (x8.length : Int)), (22, vi i10), (30, vb (decide (r17 < 0)))], ag (bA l9 o0 o1 ++ iS x16), 5⟩ ?_ ?_
     ·
      iterate 2 refine q1 _ ?_
      exact nR [0, 1, 2, 3, 4]
     by_cases hc18 : decide (r17 < 0) = true
     ·
      replace hv := bx hc18 hv
      refine bI (t := decide (r17 < 0)) rfl hc18 ?_
      refine ax ⟨tab [(3, .loc 3 0 l9.length), (4, .loc 0 0 2), (5, vi i2), (8, .ptr 4 0 0), (9, vi (l9.length : Int)), (13, .d (eL none (eL (some 2) am) a0)), (14, vi (a0.length : Int)), (15, vi i2), (20, aC x8), (21, vi (x8.length : Int)), (22, vi i10)], ag (bA l9 o0 o1 ++ iS x16), 5⟩ ?_ ?_
      ·
       iterate 3 refine q1 _ ?_
       exact nR [0, 1, 2, 3, 4]
      obtain ⟨l19, hl19, hv⟩ := aE hv
      have hh := aH hv
      subst hh
      refine b7 ⟨tab [(3, .loc 3 0 l19.length), (4, .loc 0 0 2), (5, vi i2), (9, vi (l9.length : Int)), (13, .d (eL none (eL (some 2) am) a0)), (14, vi (a0.length : Int)), (15, vi i2), (20, aC x8), (21, vi (x8.length : Int)), (22, vi i10)], ag (bA l19 o0 o1), 4⟩ ?_ ⟨rfl, rfl⟩
      refine q1 _ ?_
      refine step (v := dF x16) (iI (ds := [eL (some 2) aI x16.Match, eL none (eL (some 2) aI) x16.Acts]) rfl rfl (show 2 ≤ 2 by decide) rfl) ?_
      refine q1 _ ?_
      refine step (v := .loc 5 0 l19.length) (σ' := (aj (aj (ag (bA l9 o0 o1 ++ iS x16)) 3 none) 5 (some (.lst false (some 2) (List.map am l19))))) (n' := 6) (fy (xs := l9) (ys := ([x16] : List al)) (e := am) hl19 rfl rfl rfl (fx (xs := ([x16] : List al)) (e := am) rfl)) ?_
      refine q1 _ ?_
      exact nR [0, 1, 2, 5]
     ·
      replace hv := bz hc18 hv
      refine bF (t := decide (r17 < 0)) rfl hc18 ?_
      have hh := aH hv
      subst hh
      refine az.norm (s0 := ⟨tab [(3, .loc 3 0 l9.length), (4, .loc 0 0 2), (5, vi i2), (9, vi r17), (13, .d (eL none (eL (some 2) am) a0)), (14, vi (a0.length : Int)), (15, vi i2), (20, aC x8), (21, vi (x8.length : Int)), (22, vi i10)], ag (bA l9 o0 o1), 4⟩) (nr [0, 1, 2, 3]) ?_
      exact bN ⟨rfl, rfl⟩
    obtain ⟨k, n⟩ := ln
    rcases hi2 with e2 | e2
    ·
     replace h := bx (by rw [e2]; decide) h
     obtain ⟨o, ho, h⟩ := aE h
     have hh := aH h
     subst hh
     refine (tK e2 ho).mono fun e s' hs' => ?_
     obtain ⟨he, hs'⟩ := hs'
     subst he; subst hs'
     refine b7 ⟨tab [(3, .loc 3 0 k.length), (4, .loc 0 0 2), (5, vi i2), (13, .d (eL none (eL (some 2) am) a0)), (14, vi (a0.length : Int)), (15, vi i2), (20, aC x8), (21, vi (x8.length : Int)), (22, vi (i10 + 1))], ag (bA k o o1), 4⟩ ?_ ⟨rfl, rfl⟩
     refine step (v := vi (i10 + 1)) (dR (dS hinv13 hgo12 hB11) rfl rfl) ?_
     refine q1 _ ?_
     exact nR [0, 1, 2, 3]
    ·
     replace h := bz (by rw [e2]; decide) h
     obtain ⟨o, ho, h⟩ := aE h
     have hh := aH h
     subst hh
     refine (tL e2 ho).mono fun e s' hs' => ?_
     obtain ⟨he, hs'⟩ := hs'
     subst he; subst hs'
     refine b7 ⟨tab [(3, .loc 3 0 k.length), (4, .loc 0 0 2), (5, vi i2), (13, .d (eL none (eL (some 2) am) a0)), (14, vi (a0.length : Int)), (15, vi i2), (20, aC x8), (21, vi (x8.length : Int)), (22, vi (i10 + 1))], ag (bA k o0 o), 4⟩ ?_ ⟨rfl, rfl⟩
     refine step (v := vi (i10 + 1)) (dR (dS hinv13 hgo12 hB11) rfl rfl) ?_
     refine q1 _ ?_
     exact nR [0, 1, 2, 3]
   ·
    rintro i10 ⟨l9, o0, o1⟩ hinv13 hgo12
    show az _ _ _ _ _ ⟨tab [(3, .loc 3 0 l9.length), (4, .loc 0 0 2), (5, vi i2), (13, .d (eL none (eL (some 2) am) a0)), (14, vi (a0.length : Int)), (15, vi i2), (20, aC x8), (21, vi (x8.length : Int)), (22, vi i10)], ag (bA l9 o0 o1), 4⟩
    have hc14 : ¬ (decide (i10 < (x8.length : Int)) = true) := fun hq => hgo12 (of_decide_eq_true hq)
    refine ax ⟨tab [(3, .loc 3 0 l9.length), (4, .loc 0 0 2), (13, .d (eL none (eL (some 2) am) a0)), (14, vi (a0.length : Int)), (15, vi i2), (23, vb (decide (i10 < (x8.length : Int))))], ag (bA l9 o0 o1), 4⟩ ?_ ?_
    ·
     refine q1 _ ?_
     exact nR [0, 1, 2, 3]
    refine a9 ?_
    refine bF (t := decide (i10 < (x8.length : Int))) rfl hc14 ?_
    refine az.norm (s0 := ⟨tab [(3, .loc 3 0 l9.length), (4, .loc 0 0 2), (13, .d (eL none (eL (some 2) am) a0)), (14, vi (a0.length : Int)), (15, vi i2)], ag (bA l9 o0 o1), 4⟩) (nr [0, 1, 2, 3]) ?_
    exact dG ⟨rfl, rfl⟩
   have hh := aH h
   subst hh
   obtain ⟨k, o0, o1⟩ := z22
   refine b7 ⟨tab [(3, .loc 3 0 k.length), (4, .loc 0 0 2), (13, .d (eL none (eL (some 2) am) a0)), (14, vi (a0.length : Int)), (15, vi (i2 + 1))], ag (bA k o0 o1), 4⟩ ?_ ⟨rfl, rfl⟩
   refine step (v := vi (i2 + 1)) (dR (dS hinv5 hgo4 hB3) rfl rfl) ?_
   refine q1 _ ?_
   exact nR [0, 1, 2, 3]
  ·
   rintro i2 ⟨l1, o0, o1⟩ hinv5 hgo4
   show az _ _ _ _ _ ⟨tab [(3, .loc 3 0 l1.length), (4, .loc 0 0 2), (13, .d (eL none (eL (some 2) am) a0)), (14, vi (a0.length : Int)), (15, vi i2)], ag (bA l1 o0 o1), 4⟩
   have hc6 : ¬ (decide (i2 < (a0.length : Int)) = true) := fun hq => hgo4 (of_decide_eq_true hq)
   refine ax ⟨tab [(4, .loc 0 0 2), (16, vb (decide (i2 < (a0.length : Int))))], ag (bA l1 o0 o1), 4⟩ ?_ ?_
   ·
    refine q1 _ ?_
    exact nR [0, 1, 2, 3]
   refine a9 ?_
   refine bF (t := decide (i2 < (a0.length : Int))) rfl hc6 ?_
   refine az.norm (s0 := ⟨tab [(4, .loc 0 0 2)], ag (bA l1 o0 o1), 4⟩) (nr [0, 1, 2, 3]) ?_
   exact dG ⟨rfl, rfl⟩
  obtain ⟨k, o0, o1⟩ := z24
  have hh := aH h
  subst hh
  refine ax ⟨tab [(2, .loc 0 0 2)], ag (bA k o0 o1), 4⟩ ?_ ?_
  ·
   iterate 2 refine q1 _ ?_
   exact nR [0, 1, 2, 3]
  refine bE ?_
  show FQ _ _ _ _
  refine cf (.inr rfl) (bG (v := .loc 0 0 2) rfl rfl) ?_
  refine sx (show ag (bA k o0 o1) 0 = some (.var [.loc 1 0 o0.length, .loc 2 0 o1.length]) from rfl) rfl (tM rfl rfl) rfl (by trivial)
 ·
  cases h
theorem oO {a0 : (List al)} {a1 : (List al)} {r : cC} (h : gn a0 a1 = some r) : PCall Try.prog 43 [eL (some 2) am a0, eL (some 2) am a1] (eP (some 3) eW r) := by
 refine PCall.introN tb (show 2 ≤ 109 by decide) ?_
 refine az.norm (s0 := ⟨tab [(0, aC a0), (1, aC a1)], ag [], 0⟩) (nr []) ?_
 refine ax ⟨tab [(0, aC a0), (1, aC a1)], ag [], 0⟩ ?_ ?_
 ·
  refine q1 _ ?_
  exact nR []
 obtain ⟨r1, hr1, h⟩ := aE h
 refine ax ⟨tab [(0, aC a0), (1, aC a1), (5, .d (eL none (eL none (D.int .i64)) r1))], ag [], 0⟩ ?_ ?_
 ·
  iterate 3 refine q1 _ ?_
  refine cL (r := eL none (eL none (D.int .i64)) r1) (bw bh.nil') (tN hr1) ?_
  refine q1 _ ?_
  exact nR []
 obtain ⟨x2, hx2, h⟩ := aE h
 obtain ⟨x3, hx3, h⟩ := aE h
 obtain ⟨l4, hl4, h⟩ := aE h
 refine ax ⟨tab [(0, aC a0), (1, aC a1), (6, .ptr 0 0 0)], ag [(0, .var [aX x2, aX x3, .loc 1 0 l4.length]), (1, .lst true none (List.map (eL none (D.int .i16)) l4))], 2⟩ ?_ ?_
 ·
  refine q1 _ ?_
  refine step (v := .d (.cptr none (eL none (D.int .i64) x2) 0)) (bP (xs := r1) (e := (eL none (D.int .i64))) hx2 rfl rfl) ?_
  iterate 2 refine q1 _ ?_
  refine step (v := .d (.cptr none (eL none (D.int .i64) x3) 0)) (bP (xs := r1) (e := (eL none (D.int .i64))) hx3 rfl rfl) ?_
  iterate 2 refine q1 _ ?_
  refine step (v := vi (a0.length : Int)) (bL (xs := a0) (e := am) rfl) ?_
  refine q1 _ ?_
  refine step (v := .loc 0 0 l4.length) (σ' := (aj (ag []) 0 (some (.lst true none (List.map (eL none (D.int .i16)) l4))))) (n' := 1) (iG (e := (eL none (D.int .i16))) (z := []) hl4 rfl rfl (gQ hl4)) ?_
  refine q1 _ ?_
  refine step (v := .ptr 1 0 0) (σ' := (aj (aj (ag []) 0 (some (.lst true none (List.map (eL none (D.int .i16)) l4)))) 1 (some (.var [aX x2, aX x3, .loc 0 0 l4.length])))) (n' := 2) rfl ?_
  refine q1 _ ?_
  exact nR [1, 0]
 obtain ⟨l5, hl5, h⟩ := aE h
 obtain ⟨x6, hx6, h⟩ := aE h
 obtain ⟨l7, hl7, h⟩ := aE h
 refine ax ⟨tab [(0, aC a0), (1, aC a1), (6, .ptr 0 0 0)], ag [(0, .var [aX x2, aX x3, .loc 1 0 l7.length]), (1, .lst true none (List.map (eL none (D.int .i16)) l7))], 2⟩ ?_ ?_
 ·
  iterate 5 refine q1 _ ?_
  refine step (v := vi (a0.length : Int)) (bL (xs := a0) (e := am) rfl) ?_
  refine q1 _ ?_
  refine step (v := vi (a1.length : Int)) (bL (xs := a1) (e := am) rfl) ?_
  refine q1 _ ?_
  refine step (v := c7 l5) (sh (e := (D.int .i16)) (z := 0) hl5 rfl rfl (gQ hl5)) ?_
  refine step (v := .ptr 1 (a0.length : Int).toNat 0) (eT (xs := l4) (e := (eL none (D.int .i16))) hx6 rfl rfl rfl rfl) ?_
  refine step (v := V.undef) (σ' := (aj (ag [(0, .var [aX x2, aX x3, .loc 1 0 l4.length]), (1, .lst true none (List.map (eL none (D.int .i16)) l4))]) 1 (some (.lst true none (List.map (eL none (D.int .i16)) l7))))) (n' := 2) (gP (e := (eL none (D.int .i16))) (v' := l5) hl7 rfl rfl rfl rfl rfl) ?_
  exact aV.nil' (nm [0, 1] ⟨.d _, .d _, .pt 0, trivial⟩ ⟨⟨show 0 < 2 by decide, _, rfl, .vars ⟨.d _, .d _, .le (id := 1) (fX hl7).symm (show 1 < 2 by decide), trivial⟩⟩, ⟨show 1 < 2 by decide, _, rfl, .lst _ _ _⟩, trivial⟩)
 refine a9 ?_
 refine ax ⟨tab [(1, aC a1), (6, .ptr 0 0 0), (7, vi (IntKind.i64.wrap ((a0.length : Int) - 1)))], ag [(0, .var [aX x2, aX x3, .loc 1 0 l7.length]), (1, .lst true none (List.map (eL none (D.int .i16)) l7))], 2⟩ ?_ ?_
 ·
  refine q1 _ ?_
  refine step (v := vi (a0.length : Int)) (bL (xs := a0) (e := am) rfl) ?_
  iterate 2 refine q1 _ ?_
  exact nR [0, 1]
 obtain ⟨z40, hl, h⟩ := aE h
 refine dI 7 rfl fun hA42 => ?_
 refine cd ?_
 refine gN (nN (-1)) (fun (i9 : Int) (qq : (List (List Int))) => ⟨tab [(1, aC a1), (6, .ptr 0 0 0), (7, vi i9)], ag [(0, .var [aX x2, aX x3, .loc 1 0 qq.length]), (1, .lst true none (List.map (eL none (D.int .i16)) qq))], 2⟩) 0 (fun (qq : (List (List Int))) => ⟨tab [(6, .ptr 0 0 0)], ag [(0, .var [aX x2, aX x3, .loc 1 0 qq.length]), (1, .lst true none (List.map (eL none (D.int .i16)) qq))], 2⟩) (fun i => IntKind.i64.wrap i = i) (fun i hi hg => jB hg (by decide) hi) hl hA42 ?_ ?_ ?_
 ·
  rintro i9 l8 xr14 hinv12 hgo11 h
  show az _ _ _ _ _ ⟨tab [(1, aC a1), (6, .ptr 0 0 0), (7, vi i9)], ag [(0, .var [aX x2, aX x3, .loc 1 0 l8.length]), (1, .lst true none (List.map (eL none (D.int .i16)) l8))], 2⟩
  have hc13 : decide (i9 ≥ 0) = true := decide_eq_true (by omega)
  refine a9 ?_
  refine ax ⟨tab [(1, aC a1), (6, .ptr 0 0 0), (7, vi i9), (42, vb (decide (i9 ≥ 0)))], ag [(0, .var [aX x2, aX x3, .loc 1 0 l8.length]), (1, .lst true none (List.map (eL none (D.int .i16)) l8))], 2⟩ ?_ ?_
  ·
   iterate 2 refine q1 _ ?_
   exact nR [0, 1]
  refine bI (t := decide (i9 ≥ 0)) rfl hc13 ?_
  refine bN ?_
  refine a9 ?_
  refine cd ?_
  obtain ⟨x15, hx15, h⟩ := aE h
  refine ax ⟨tab [(1, aC a1), (6, .ptr 0 0 0), (7, vi i9), (8, c7 x15)], ag [(0, .var [aX x2, aX x3, .loc 1 0 l8.length]), (1, .lst true none (List.map (eL none (D.int .i16)) l8))], 2⟩ ?_ ?_
  ·
   iterate 6 refine q1 _ ?_
   refine step (v := .ptr 1 (IntKind.i64.wrap (i9 + 1)).toNat 0) (eT (xs := l8) (e := (eL none (D.int .i16))) hx15 rfl rfl rfl rfl) ?_
   refine step (v := c7 x15) (k4 (xs := l8) (e := (eL none (D.int .i16))) hx15 rfl rfl rfl) ?_
   refine q1 _ ?_
   exact nR [0, 1]
  refine ax ⟨tab [(1, aC a1), (6, .ptr 0 0 0), (7, vi i9), (8, c7 x15), (9, .loc 2 0 l5.length)], ag [(0, .var [aX x2, aX x3, .loc 1 0 l8.length]), (1, .lst true none (List.map (eL none (D.int .i16)) l8)), (2, .lst true none (List.map (D.int .i16) l5))], 3⟩ ?_ ?_
  ·
   refine q1 _ ?_
   refine step (v := vi (a1.length : Int)) (bL (xs := a1) (e := am) rfl) ?_
   refine q1 _ ?_
   refine step (v := .loc 2 0 l5.length) (σ' := (aj (ag [(0, .var [aX x2, aX x3, .loc 1 0 l8.length]), (1, .lst true none (List.map (eL none (D.int .i16)) l8))]) 2 (some (.lst true none (List.map (D.int .i16) l5))))) (n' := 3) (iG (e := (D.int .i16)) (z := 0) hl5 rfl rfl (gQ hl5)) ?_
   refine q1 _ ?_
   exact nR [0, 1, 2]
  refine a9 ?_
  refine ax ⟨tab [(1, aC a1), (6, .ptr 0 0 0), (7, vi i9), (8, c7 x15), (9, .loc 2 0 l5.length), (10, vi (IntKind.i64.wrap ((a1.length : Int) - 1)))], ag [(0, .var [aX x2, aX x3, .loc 1 0 l8.length]), (1, .lst true none (List.map (eL none (D.int .i16)) l8)), (2, .lst true none (List.map (D.int .i16) l5))], 3⟩ ?_ ?_
  ·
   refine q1 _ ?_
   refine step (v := vi (a1.length : Int)) (bL (xs := a1) (e := am) rfl) ?_
   iterate 2 refine q1 _ ?_
   exact nR [0, 1, 2]
  obtain ⟨z35, hl, h⟩ := aE h
  refine dI 10 rfl fun hA39 => ?_
  refine cd ?_
  refine gN (nN (-1)) (fun (i17 : Int) (qq : (List Int)) => ⟨tab [(1, aC a1), (6, .ptr 0 0 0), (7, vi i9), (8, c7 x15), (9, .loc 2 0 qq.length), (10, vi i17)], ag [(0, .var [aX x2, aX x3, .loc 1 0 l8.length]), (1, .lst true none (List.map (eL none (D.int .i16)) l8)), (2, .lst true none (List.map (D.int .i16) qq))], 3⟩) 2 (fun (qq : (List Int)) => ⟨tab [(1, aC a1), (6, .ptr 0 0 0), (7, vi i9), (9, .loc 2 0 qq.length)], ag [(0, .var [aX x2, aX x3, .loc 1 0 l8.length]), (1, .lst true none (List.map (eL none (D.int .i16)) l8)), (2, .lst true none (List.map (D.int .i16) qq))], 3⟩) (fun i => IntKind.i64.wrap i = i) (fun i hi hg => jB hg (by decide) hi) hl hA39 ?_ ?_ ?_
  ·
   rintro i17 l16 xr22 hinv20 hgo19 h
   show az _ _ _ _ _ ⟨tab [(1, aC a1), (6, .ptr 0 0 0), (7, vi i9), (8, c7 x15), (9, .loc 2 0 l16.length), (10, vi i17)], ag [(0, .var [aX x2, aX x3, .loc 1 0 l8.length]), (1, .lst true none (List.map (eL none (D.int .i16)) l8)), (2, .lst true none (List.map (D.int .i16) l16))], 3⟩
   have hc21 : decide (i17 ≥ 0) = true := decide_eq_true (by omega)
   refine a9 ?_
   refine ax ⟨tab [(1, aC a1), (6, .ptr 0 0 0), (7, vi i9), (8, c7 x15), (9, .loc 2 0 l16.length), (10, vi i17), (61, vb (decide (i17 ≥ 0)))], ag [(0, .var [aX x2, aX x3, .loc 1 0 l8.length]), (1, .lst true none (List.map (eL none (D.int .i16)) l8)), (2, .lst true none (List.map (D.int .i16) l16))], 3⟩ ?_ ?_
   ·
    iterate 2 refine q1 _ ?_
    exact nR [0, 1, 2]
   refine bI (t := decide (i17 ≥ 0)) rfl hc21 ?_
   refine bN ?_
   obtain ⟨l33, hv, h⟩ := aE h
   refine kY ⟨tab [(1, aC a1), (6, .ptr 0 0 0), (7, vi i9), (8, c7 x15), (9, .loc 2 0 l33.length), (10, vi i17)], ag [(0, .var [aX x2, aX x3, .loc 1 0 l8.length]), (1, .lst true none (List.map (eL none (D.int .i16)) l8)), (2, .lst true none (List.map (D.int .i16) l33))], 3⟩ ?_ ?_
   ·
    replace h := hv
    refine cd ?_
    obtain ⟨x23, hx23, h⟩ := aE h
    obtain ⟨x24, hx24, h⟩ := aE h
    obtain ⟨x25, hx25, h⟩ := aE h
    obtain ⟨l26, hl26, h⟩ := aE h
    refine ax ⟨tab [(1, aC a1), (6, .ptr 0 0 0), (7, vi i9), (8, c7 x15), (9, .loc 2 0 l26.length), (10, vi i17)], ag [(0, .var [aX x2, aX x3, .loc 1 0 l8.length]), (1, .lst true none (List.map (eL none (D.int .i16)) l8)), (2, .lst true none (List.map (D.int .i16) l26))], 3⟩ ?_ ?_
    ·
     iterate 4 refine q1 _ ?_
     refine step (v := .d (.cptr none (.int .i16 x23) 0)) (bP (xs := x15) (e := (D.int .i16)) hx23 rfl rfl) ?_
     iterate 4 refine q1 _ ?_
     refine step (v := .ptr 2 (IntKind.i64.wrap (i17 + 1)).toNat 0) (eT (xs := l16) (e := (D.int .i16)) hx24 rfl rfl rfl rfl) ?_
     refine step (v := .d (.int .i16 x24)) (k4 (xs := l16) (e := (D.int .i16)) hx24 rfl rfl rfl) ?_
     refine q1 _ ?_
     refine step (v := .ptr 2 i17.toNat 0) (eT (xs := l16) (e := (D.int .i16)) hx25 rfl rfl rfl rfl) ?_
     refine step (v := V.undef) (σ' := (aj (ag [(0, .var [aX x2, aX x3, .loc 1 0 l8.length]), (1, .lst true none (List.map (eL none (D.int .i16)) l8)), (2, .lst true none (List.map (D.int .i16) l16))]) 2 (some (.lst true none (List.map (D.int .i16) l26))))) (n' := 3) (gP (e := (D.int .i16)) (v' := eG x23 x24) hl26 rfl rfl rfl rfl rfl) ?_
     exact aV.nil' (nm [0, 1, 2] ⟨.d _, .pt 0, .d _, .d _, .le (id := 2) (fX hl26).symm (show 2 < 3 by decide), .d _, trivial⟩ ⟨⟨show 0 < 3 by decide, _, rfl, .vars ⟨.d _, .d _, .lc 1, trivial⟩⟩, ⟨show 1 < 3 by decide, _, rfl, .lst _ _ _⟩, ⟨show 2 < 3 by decide, _, rfl, .lst _ _ _⟩, trivial⟩)
    obtain ⟨x27, hx27, h⟩ := aE h
    obtain ⟨x28, hx28, h⟩ := aE h
    refine ax ⟨tab [(1, aC a1), (6, .ptr 0 0 0), (7, vi i9), (8, c7 x15), (9, .loc 2 0 l26.length), (10, vi i17), (91, vb (x27 == x28))], ag [(0, .var [aX x2, aX x3, .loc 1 0 l8.length]), (1, .lst true none (List.map (eL none (D.int .i16)) l8)), (2, .lst true none (List.map (D.int .i16) l26))], 3⟩ ?_ ?_
    ·
     iterate 5 refine q1 _ ?_
     refine step (v := .d (.cptr none (.int .i64 x27) 0)) (bP (xs := x2) (e := (D.int .i64)) hx27 rfl rfl) ?_
     iterate 6 refine q1 _ ?_
     refine step (v := .d (.cptr none (.int .i64 x28) 0)) (bP (xs := x3) (e := (D.int .i64)) hx28 rfl rfl) ?_
     iterate 2 refine q1 _ ?_
     exact nR [0, 1, 2]
    by_cases hc29 : (x27 == x28) = true
    ·
     replace h := bx hc29 h
     refine bI (t := (x27 == x28)) rfl hc29 ?_
     obtain ⟨x30, hx30, h⟩ := aE h
     obtain ⟨x31, hx31, h⟩ := aE h
     obtain ⟨l32, hl32, h⟩ := aE h
     have hh := aH h
     subst hh
     refine b7 ⟨tab [(1, aC a1), (6, .ptr 0 0 0), (7, vi i9), (8, c7 x15), (9, .loc 2 0 l32.length), (10, vi i17)], ag [(0, .var [aX x2, aX x3, .loc 1 0 l8.length]), (1, .lst true none (List.map (eL none (D.int .i16)) l8)), (2, .lst true none (List.map (D.int .i16) l32))], 3⟩ ?_ ?_
     ·
      iterate 5 refine q1 _ ?_
      refine step (v := .d (.cptr none (.int .i16 x30) 0)) (bP (xs := x15) (e := (D.int .i16)) hx30 rfl rfl) ?_
      iterate 2 refine q1 _ ?_
      refine step (v := .ptr 2 i17.toNat 0) (eT (xs := l26) (e := (D.int .i16)) hx31 rfl rfl rfl rfl) ?_
      refine step (v := V.undef) (σ' := (aj (ag [(0, .var [aX x2, aX x3, .loc 1 0 l8.length]), (1, .lst true none (List.map (eL none (D.int .i16)) l8)), (2, .lst true none (List.map (D.int .i16) l26))]) 2 (some (.lst true none (List.map (D.int .i16) l32))))) (n' := 3) (gP (e := (D.int .i16)) (v' := IntKind.i16.wrap (x30 + 1)) hl32 rfl rfl rfl rfl rfl) ?_
      exact aV.nil' (nm [0, 1, 2] ⟨.d _, .pt 0, .d _, .d _, .le (id := 2) (fX hl32).symm (show 2 < 3 by decide), .d _, trivial⟩ ⟨⟨show 0 < 3 by decide, _, rfl, .vars ⟨.d _, .d _, .lc 1, trivial⟩⟩, ⟨show 1 < 3 by decide, _, rfl, .lst _ _ _⟩, ⟨show 2 < 3 by decide, _, rfl, .lst _ _ _⟩, trivial⟩)
     exact And.intro rfl rfl
    ·
     replace h := bz hc29 h
     refine bF (t := (x27 == x28)) rfl hc29 ?_
     have hh := aH h
     subst hh
     refine az.norm (s0 := ⟨tab [(1, aC a1), (6, .ptr 0 0 0), (7, vi i9), (8, c7 x15), (9, .loc 2 0 l26.length), (10, vi i17)], ag [(0, .var [aX x2, aX x3, .loc 1 0 l8.length]), (1, .lst true none (List.map (eL none (D.int .i16)) l8)), (2, .lst true none (List.map (D.int .i16) l26))], 3⟩) (nr [0, 1, 2]) ?_
     refine bN ?_
     exact And.intro rfl rfl
   have hh := aH h
   subst hh
   refine b7 ⟨tab [(1, aC a1), (6, .ptr 0 0 0), (7, vi i9), (8, c7 x15), (9, .loc 2 0 l33.length), (10, vi (i17 - 1))], ag [(0, .var [aX x2, aX x3, .loc 1 0 l8.length]), (1, .lst true none (List.map (eL none (D.int .i16)) l8)), (2, .lst true none (List.map (D.int .i16) l33))], 3⟩ ?_ ?_
   ·
    refine q1 _ ?_
    refine step (v := vi (i17 - 1)) (nP (jB hgo19 (by decide) hinv20) rfl rfl) ?_
    refine q1 _ ?_
    exact nR [0, 1, 2]
   exact And.intro rfl rfl
  ·
   rintro i17 l16 hinv20 hgo19
   show az _ _ _ _ _ ⟨tab [(1, aC a1), (6, .ptr 0 0 0), (7, vi i9), (8, c7 x15), (9, .loc 2 0 l16.length), (10, vi i17)], ag [(0, .var [aX x2, aX x3, .loc 1 0 l8.length]), (1, .lst true none (List.map (eL none (D.int .i16)) l8)), (2, .lst true none (List.map (D.int .i16) l16))], 3⟩
   have hc21 : ¬ (decide (i17 ≥ 0) = true) := fun hq => hgo19 (by have := of_decide_eq_true hq; omega)
   refine a9 ?_
   refine ax ⟨tab [(1, aC a1), (6, .ptr 0 0 0), (7, vi i9), (8, c7 x15), (9, .loc 2 0 l16.length), (10, vi i17), (61, vb (decide (i17 ≥ 0)))], ag [(0, .var [aX x2, aX x3, .loc 1 0 l8.length]), (1, .lst true none (List.map (eL none (D.int .i16)) l8)), (2, .lst true none (List.map (D.int .i16) l16))], 3⟩ ?_ ?_
   ·
    iterate 2 refine q1 _ ?_
    exact nR [0, 1, 2]
   refine bF (t := decide (i17 ≥ 0)) rfl hc21 ?_
   refine az.norm (s0 := ⟨tab [(1, aC a1), (6, .ptr 0 0 0), (7, vi i9), (9, .loc 2 0 l16.length)], ag [(0, .var [aX x2, aX x3, .loc 1 0 l8.length]), (1, .lst true none (List.map (eL none (D.int .i16)) l8)), (2, .lst true none (List.map (D.int .i16) l16))], 3⟩) (nr [0, 1, 2]) ?_
   refine dG ?_
   exact And.intro rfl rfl
  refine az.norm (s0 := ⟨tab [(1, aC a1), (6, .ptr 0 0 0), (7, vi i9), (9, c7 z35)], ag [(0, .var [aX x2, aX x3, .loc 1 0 l8.length]), (1, .lst true none (List.map (eL none (D.int .i16)) l8))], 2⟩) (a8.trans (s2 := ⟨tab [(1, aC a1), (6, .ptr 0 0 0), (7, vi i9), (9, c7 z35)], ag [(0, .var [aX x2, aX x3, .loc 1 0 l8.length]), (1, .lst true none (List.map (eL none (D.int .i16)) l8))], 2⟩) (nW [9] (id := 2) (m := true) (k := none) (xs := z35) (e := (D.int .i16)) rfl (fun t ht => by cases ht with | head => exact ⟨_, rfl, rfl⟩ | tail _ h => cases h)) (nr [0, 1])) ?_
  obtain ⟨x36, hx36, h⟩ := aE h
  obtain ⟨l37, hl37, h⟩ := aE h
  refine b7 ⟨tab [(1, aC a1), (6, .ptr 0 0 0), (7, vi i9)], ag [(0, .var [aX x2, aX x3, .loc 1 0 l37.length]), (1, .lst true none (List.map (eL none (D.int .i16)) l37))], 2⟩ ?_ ?_
  ·
   iterate 6 refine q1 _ ?_
   refine step (v := .ptr 1 i9.toNat 0) (eT (xs := l8) (e := (eL none (D.int .i16))) hx36 rfl rfl rfl rfl) ?_
   refine step (v := V.undef) (σ' := (aj (ag [(0, .var [aX x2, aX x3, .loc 1 0 l8.length]), (1, .lst true none (List.map (eL none (D.int .i16)) l8))]) 1 (some (.lst true none (List.map (eL none (D.int .i16)) l37))))) (n' := 2) (gP (e := (eL none (D.int .i16))) (v' := z35) hl37 rfl rfl rfl rfl rfl) ?_
   exact aV.nil' (nm [0, 1] ⟨.d _, .pt 0, .d _, trivial⟩ ⟨⟨show 0 < 2 by decide, _, rfl, .vars ⟨.d _, .d _, .le (id := 1) (fX hl37).symm (show 1 < 2 by decide), trivial⟩⟩, ⟨show 1 < 2 by decide, _, rfl, .lst _ _ _⟩, trivial⟩)
  have hh := aH h
  subst hh
  refine b7 ⟨tab [(1, aC a1), (6, .ptr 0 0 0), (7, vi (i9 - 1))], ag [(0, .var [aX x2, aX x3, .loc 1 0 l37.length]), (1, .lst true none (List.map (eL none (D.int .i16)) l37))], 2⟩ ?_ ?_
  ·
   refine q1 _ ?_
   refine step (v := vi (i9 - 1)) (nP (jB hgo11 (by decide) hinv12) rfl rfl) ?_
   refine q1 _ ?_
   exact nR [0, 1]
  exact And.intro rfl rfl
 ·
  rintro i9 l8 hinv12 hgo11
  show az _ _ _ _ _ ⟨tab [(1, aC a1), (6, .ptr 0 0 0), (7, vi i9)], ag [(0, .var [aX x2, aX x3, .loc 1 0 l8.length]), (1, .lst true none (List.map (eL none (D.int .i16)) l8))], 2⟩
  have hc13 : ¬ (decide (i9 ≥ 0) = true) := fun hq => hgo11 (by have := of_decide_eq_true hq; omega)
  refine a9 ?_
  refine ax ⟨tab [(1, aC a1), (6, .ptr 0 0 0), (7, vi i9), (42, vb (decide (i9 ≥ 0)))], ag [(0, .var [aX x2, aX x3, .loc 1 0 l8.length]), (1, .lst true none (List.map (eL none (D.int .i16)) l8))], 2⟩ ?_ ?_
  ·
   iterate 2 refine q1 _ ?_
   exact nR [0, 1]
  refine bF (t := decide (i9 ≥ 0)) rfl hc13 ?_
  refine az.norm (s0 := ⟨tab [(6, .ptr 0 0 0)], ag [(0, .var [aX x2, aX x3, .loc 1 0 l8.length]), (1, .lst true none (List.map (eL none (D.int .i16)) l8))], 2⟩) (nr [0, 1]) ?_
  refine dG ?_
  exact And.intro rfl rfl
 refine ax ⟨tab [(4, .ptr 0 0 0)], ag [(0, .var [aX x2, aX x3, .loc 1 0 z40.length]), (1, .lst true none (List.map (eL none (D.int .i16)) z40))], 2⟩ ?_ ?_
 ·
  iterate 2 refine q1 _ ?_
  exact nR [0, 1]
 have hh := aH h
 subst hh
 refine az.norm (s0 := ⟨tab [(4, .d (.cptr (some 3) (eW (cC.mk x2 x3 z40)) 0))], ag [], 0⟩) (a8.trans (s2 := ⟨tab [(4, .d (.cptr (some 3) (eW (cC.mk x2 x3 z40)) 0))], ag [], 0⟩) (sj 0 2 1 (m := true) (k := none) (xs := z40) (e := (eL none (D.int .i16))) rfl rfl rfl (by decide)) (a8.trans (s2 := ⟨tab [(4, .d (.cptr (some 3) (eW (cC.mk x2 x3 z40)) 0))], ag [], 0⟩) (sg 4 (id := 0) (j := 0) (ds := [eL none (D.int .i64) x2, eL none (D.int .i64) x3, eL none (eL none (D.int .i16)) z40]) rfl rfl) (nr []))) ?_
 refine bE ?_
 show FQ _ _ _ _
 exact cf (.inr rfl) (bG (v := .d (.cptr (some 3) (eW (cC.mk x2 x3 z40)) 0)) rfl rfl) (RV.d trivial)
theorem tO {a0 : cC} {a1 : Int} {a2 : Int} {a3 : Int} {r : Int} (h : i7 a0 a1 a2 a3 = some r) : PCall Try.prog 72 [.cptr (some 3) (eW a0) 0, .int .i64 a1, .int .i64 a2, .int .i16 a3] (.int .i64 r) := by
 refine PCall.introN te (show 4 ≤ 51 by decide) ?_
 refine az.norm (s0 := ⟨tab [(0, b4 a0), (1, vi a1), (2, vi a2), (3, .d (.int .i16 a3))], ag [], 0⟩) (nr []) ?_
 refine ax ⟨tab [(0, b4 a0), (1, vi a1), (2, vi a2), (3, .d (.int .i16 a3))], ag [], 0⟩ ?_ ?_
 ·
  refine q1 _ ?_
  exact nR []
 refine a9 ?_
 refine ax ⟨tab [(0, b4 a0), (1, vi a1), (3, .d (.int .i16 a3)), (9, vi a2)], ag [], 0⟩ ?_ ?_
 ·
  iterate 2 refine q1 _ ?_
  exact nR []
 obtain ⟨q13, hl, h⟩ := aE h
 refine dI 9 rfl fun hA14 => ?_
 refine cd ?_
 refine gO (eA (a0.b.length : Int)) (fun (i1 : Int) (qq : Unit) => ⟨tab [(0, b4 a0), (1, vi a1), (3, .d (.int .i16 a3)), (9, vi i1)], ag [], 0⟩) 0 (fun (qq : Unit) => ⟨tab [], ag [], 0⟩) b8 eB (r := r) hl (rc hA14) ?_ ?_ ?_ ?_
 ·
  rintro i1 ⟨⟩ xr6 hinv4 hgo3 h
  show az _ _ _ _ _ ⟨tab [(0, b4 a0), (1, vi a1), (3, .d (.int .i16 a3)), (9, vi i1)], ag [], 0⟩
  have hc5 : decide (i1 < (a0.b.length : Int)) = true := decide_eq_true hgo3
  refine a9 ?_
  refine ax ⟨tab [(0, b4 a0), (1, vi a1), (3, .d (.int .i16 a3)), (9, vi i1), (16, vi (a0.b.length : Int)), (17, vb (decide (i1 < (a0.b.length : Int))))], ag [], 0⟩ ?_ ?_
  ·
   iterate 5 refine q1 _ ?_
   refine step (v := vi (a0.b.length : Int)) (bL (xs := a0.b) (e := (D.int .i64)) rfl) ?_
   refine q1 _ ?_
   exact nR []
  refine dI 16 rfl fun hB2 => ?_
  refine bI (t := decide (i1 < (a0.b.length : Int))) rfl hc5 ?_
  refine bN ?_
  refine a9 ?_
  refine cd ?_
  obtain ⟨x7, hx7, h⟩ := aE h
  obtain ⟨x8, hx8, h⟩ := aE h
  refine ax ⟨tab [(0, b4 a0), (1, vi a1), (3, .d (.int .i16 a3)), (9, vi i1), (34, vb (x7 == x8))], ag [], 0⟩ ?_ ?_
  ·
   iterate 5 refine q1 _ ?_
   refine step (v := .d (.cptr none (.int .i64 x7) 0)) (bP (xs := a0.a) (e := (D.int .i64)) hx7 rfl rfl) ?_
   iterate 6 refine q1 _ ?_
   refine step (v := .d (.cptr none (.int .i64 x8) 0)) (bP (xs := a0.b) (e := (D.int .i64)) hx8 rfl rfl) ?_
   iterate 2 refine q1 _ ?_
   exact nR []
  by_cases hc9 : (x7 == x8) = true
  ·
   replace h := bx hc9 h
   refine bI (t := (x7 == x8)) rfl hc9 ?_
   refine a9 ?_
   obtain ⟨x10, hx10, h⟩ := aE h
   obtain ⟨x11, hx11, h⟩ := aE h
   refine ax ⟨tab [(9, vi i1), (49, vb ((IntKind.i16.wrap (x11 + 1)) == a3))], ag [], 0⟩ ?_ ?_
   ·
    iterate 6 refine q1 _ ?_
    refine step (v := .d (.cptr none (eL none (D.int .i16) x10) 0)) (bP (xs := a0.best) (e := (eL none (D.int .i16))) hx10 rfl rfl) ?_
    iterate 2 refine q1 _ ?_
    refine step (v := vi (i1 + 1)) (dR (dS hinv4 hgo3 hB2) rfl rfl) ?_
    refine step (v := .d (.cptr none (.int .i16 x11) 0)) (bP (xs := x10) (e := (D.int .i16)) hx11 rfl rfl) ?_
    iterate 4 refine q1 _ ?_
    exact nR []
   by_cases hc12 : ((IntKind.i16.wrap (x11 + 1)) == a3) = true
   ·
    replace h := bx hc12 h
    refine bI (t := ((IntKind.i16.wrap (x11 + 1)) == a3)) rfl hc12 ?_
    refine ax ⟨tab [(8, vi i1)], ag [], 0⟩ ?_ ?_
    ·
     iterate 2 refine q1 _ ?_
     exact nR []
    obtain ⟨r13, kr13, hr⟩ := eC (o := some i1) (g := Br.ret) h
    subst hr
    have h := kr13
    have hh := aH h
    subst hh
    refine bE ?_
    refine And.intro (fun hn => nomatch hn) ?_
    intro hq
    have hq := hq.symm
    subst hq
    show FQ _ _ _ _
    exact cf (.inr rfl) (bG (v := vi i1) rfl rfl) (RV.d trivial)
   ·
    replace h := bz hc12 h
    refine bF (t := ((IntKind.i16.wrap (x11 + 1)) == a3)) rfl hc12 ?_
    refine bN ?_
    refine ax ⟨tab [(8, vi (-1))], ag [], 0⟩ ?_ ?_
    ·
     refine q1 _ ?_
     exact nR []
    obtain ⟨r13, kr13, hr⟩ := eC (o := some (-1)) (g := Br.ret) h
    subst hr
    have h := kr13
    have hh := aH h
    subst hh
    refine bE ?_
    refine And.intro (fun hn => nomatch hn) ?_
    intro hq
    have hq := hq.symm
    subst hq
    show FQ _ _ _ _
    exact cf (.inr rfl) (bG (v := vi (-1)) rfl rfl) (RV.d trivial)
  ·
   replace h := bz hc9 h
   refine bF (t := (x7 == x8)) rfl hc9 ?_
   refine bN ?_
   have hh := aH h
   subst hh
   refine b7 ⟨tab [(0, b4 a0), (1, vi a1), (3, .d (.int .i16 a3)), (9, vi (i1 + 1))], ag [], 0⟩ ?_ ?_
   ·
    refine q1 _ ?_
    refine step (v := vi (i1 + 1)) (dR (dS hinv4 hgo3 hB2) rfl rfl) ?_
    refine q1 _ ?_
    exact nR []
   exact And.intro rfl rfl
 ·
  rintro i1 ⟨⟩ hinv4 hgo3
  show az _ _ _ _ _ ⟨tab [(0, b4 a0), (1, vi a1), (3, .d (.int .i16 a3)), (9, vi i1)], ag [], 0⟩
  have hc5 : ¬ (decide (i1 < (a0.b.length : Int)) = true) := fun hq => hgo3 (of_decide_eq_true hq)
  refine a9 ?_
  refine ax ⟨tab [(0, b4 a0), (1, vi a1), (3, .d (.int .i16 a3)), (9, vi i1), (17, vb (decide (i1 < (a0.b.length : Int))))], ag [], 0⟩ ?_ ?_
  ·
   iterate 5 refine q1 _ ?_
   refine step (v := vi (a0.b.length : Int)) (bL (xs := a0.b) (e := (D.int .i64)) rfl) ?_
   refine q1 _ ?_
   exact nR []
  refine bF (t := decide (i1 < (a0.b.length : Int))) rfl hc5 ?_
  refine az.norm (s0 := ⟨tab [], ag [], 0⟩) (nr []) ?_
  refine dG ?_
  exact And.intro rfl rfl
 ·
  intro r' hq
  subst hq
  exact aH h
 rintro ⟨⟩ rfl
 refine ax ⟨tab [(8, vi (-1))], ag [], 0⟩ ?_ ?_
 ·
  refine q1 _ ?_
  exact nR []
 have hh := aH h
 subst hh
 refine bE ?_
 show FQ _ _ _ _
 exact cf (.inr rfl) (bG (v := vi (-1)) rfl rfl) (RV.d trivial)
theorem tP {a0 : cC} {r : ((List Bool) × (List Bool))} (h : hJ a0 = some r) : PCall Try.prog 44 [.cptr (some 3) (eW a0) 0] (.tup [eL none D.bool r.1, eL none D.bool r.2]) := by
 refine PCall.introN th (show 1 ≤ 65 by decide) ?_
 refine az.norm (s0 := ⟨tab [(0, b4 a0)], ag [], 0⟩) (nr []) ?_
 refine ax ⟨tab [(0, b4 a0)], ag [], 0⟩ ?_ ?_
 ·
  iterate 2 refine q1 _ ?_
  exact nR []
 obtain ⟨l1, hl1, h⟩ := aE h
 obtain ⟨l2, hl2, h⟩ := aE h
 refine ax ⟨tab [(0, b4 a0), (2, .loc 0 0 l1.length), (3, .loc 1 0 l2.length)], ag [(0, .lst true none (List.map D.bool l1)), (1, .lst true none (List.map D.bool l2))], 2⟩ ?_ ?_
 ·
  iterate 4 refine q1 _ ?_
  refine step (v := vi (a0.a.length : Int)) (bL (xs := a0.a) (e := (D.int .i64)) rfl) ?_
  refine step (v := .loc 0 0 l1.length) (σ' := (aj (ag []) 0 (some (.lst true none (List.map D.bool l1))))) (n' := 1) (iG (e := D.bool) (z := false) hl1 rfl rfl (gQ hl1)) ?_
  iterate 4 refine q1 _ ?_
  refine step (v := vi (a0.b.length : Int)) (bL (xs := a0.b) (e := (D.int .i64)) rfl) ?_
  refine step (v := .loc 1 0 l2.length) (σ' := (aj (aj (ag []) 0 (some (.lst true none (List.map D.bool l1)))) 1 (some (.lst true none (List.map D.bool l2))))) (n' := 2) (iG (e := D.bool) (z := false) hl2 rfl rfl (gQ hl2)) ?_
  iterate 2 refine q1 _ ?_
  exact nR [0, 1]
 refine ax ⟨tab [(0, b4 a0), (2, .loc 0 0 l1.length), (3, .loc 1 0 l2.length), (4, vi 0)], ag [(0, .lst true none (List.map D.bool l1)), (1, .lst true none (List.map D.bool l2))], 2⟩ ?_ ?_
 ·
  refine q1 _ ?_
  exact nR [0, 1]
 refine a9 ?_
 refine ax ⟨tab [(0, b4 a0), (2, .loc 0 0 l1.length), (3, .loc 1 0 l2.length), (4, vi 0), (23, vi (a0.a.length : Int)), (24, vi 0)], ag [(0, .lst true none (List.map D.bool l1)), (1, .lst true none (List.map D.bool l2))], 2⟩ ?_ ?_
 ·
  iterate 4 refine q1 _ ?_
  refine step (v := vi (a0.a.length : Int)) (bL (xs := a0.a) (e := (D.int .i64)) rfl) ?_
  refine q1 _ ?_
  exact nR [0, 1]
 obtain ⟨q28, hl, h⟩ := aE h
 obtain ⟨z25, z26, z27⟩ := q28
 refine cd ?_
 refine qV (eA (a0.a.length : Int)) (fun (i6 : Int) (qq : ((List Bool) × (List Bool) × Int)) => ⟨tab [(0, b4 a0), (2, .loc 0 0 qq.1.length), (3, .loc 1 0 qq.2.1.length), (4, vi qq.2.2), (23, vi (a0.a.length : Int)), (24, vi i6)], ag [(0, .lst true none (List.map D.bool qq.1)), (1, .lst true none (List.map D.bool qq.2.1))], 2⟩) 0 (fun (qq : ((List Bool) × (List Bool) × Int)) => ⟨tab [(2, .loc 0 0 qq.1.length), (3, .loc 1 0 qq.2.1.length)], ag [(0, .lst true none (List.map D.bool qq.1)), (1, .lst true none (List.map D.bool qq.2.1))], 2⟩) b8 eB hl (by unfold b8; omega) ?_ ?_ ?_
 ·
  rintro i6 ⟨l3, l4, i5⟩ xr11 hinv9 hgo8 h
  show az _ _ _ _ _ ⟨tab [(0, b4 a0), (2, .loc 0 0 l3.length), (3, .loc 1 0 l4.length), (4, vi i5), (23, vi (a0.a.length : Int)), (24, vi i6)], ag [(0, .lst true none (List.map D.bool l3)), (1, .lst true none (List.map D.bool l4))], 2⟩
  have hc10 : decide (i6 < (a0.a.length : Int)) = true := decide_eq_true hgo8
  refine ax ⟨tab [(0, b4 a0), (2, .loc 0 0 l3.length), (3, .loc 1 0 l4.length), (4, vi i5), (23, vi (a0.a.length : Int)), (24, vi i6), (25, vb (decide (i6 < (a0.a.length : Int))))], ag [(0, .lst true none (List.map D.bool l3)), (1, .lst true none (List.map D.bool l4))], 2⟩ ?_ ?_
  ·
   refine q1 _ ?_
   exact nR [0, 1]
  refine dI 23 rfl fun hB7 => ?_
  refine a9 ?_
  refine bI (t := decide (i6 < (a0.a.length : Int))) rfl hc10 ?_
  refine bN ?_
  obtain ⟨q24, hv, h⟩ := aE h
  refine nM (fun (qq : ((List Bool) × (List Bool) × Int)) => ⟨tab [(0, b4 a0), (2, .loc 0 0 qq.1.length), (3, .loc 1 0 qq.2.1.length), (4, vi qq.2.2), (23, vi (a0.a.length : Int)), (24, vi i6)], ag [(0, .lst true none (List.map D.bool qq.1)), (1, .lst true none (List.map D.bool qq.2.1))], 2⟩) (xv := q24) (r := xr11) ?_ ?_ ?_
  ·
   replace h := hv
   refine cd ?_
   refine ax ⟨tab [(0, b4 a0), (2, .loc 0 0 l3.length), (3, .loc 1 0 l4.length), (4, vi i5), (5, vi i6), (23, vi (a0.a.length : Int)), (24, vi i6)], ag [(0, .lst true none (List.map D.bool l3)), (1, .lst true none (List.map D.bool l4))], 2⟩ ?_ ?_
   ·
    iterate 2 refine q1 _ ?_
    exact nR [0, 1]
   refine a9 ?_
   obtain ⟨x12, hx12, h⟩ := aE h
   obtain ⟨x13, hx13, h⟩ := aE h
   refine ax ⟨tab [(0, b4 a0), (2, .loc 0 0 l3.length), (3, .loc 1 0 l4.length), (4, vi i5), (5, vi i6), (23, vi (a0.a.length : Int)), (24, vi i6), (37, vb (x13 == 0))], ag [(0, .lst true none (List.map D.bool l3)), (1, .lst true none (List.map D.bool l4))], 2⟩ ?_ ?_
   ·
    iterate 5 refine q1 _ ?_
    refine step (v := .d (.cptr none (eL none (D.int .i16) x12) 0)) (bP (xs := a0.best) (e := (eL none (D.int .i16))) hx12 rfl rfl) ?_
    iterate 2 refine q1 _ ?_
    refine step (v := .d (.cptr none (.int .i16 x13) 0)) (bP (xs := x12) (e := (D.int .i16)) hx13 rfl rfl) ?_
    iterate 2 refine q1 _ ?_
    exact nR [0, 1]
   by_cases hc14 : (x13 == 0) = true
   ·
    replace h := bx hc14 h
    refine bI (t := (x13 == 0)) rfl hc14 ?_
    obtain ⟨r15, kr15, hr⟩ := eC (o := (some (.inr (l3, l4, i5)) : Option (((List Bool) × (List Bool) × Int) ⊕ ((List Bool) × (List Bool) × Int)))) (g := Sum.inr) h
    subst hr
    have h := kr15
    have hh := aH h
    subst hh
    refine az.norm (s0 := ⟨tab [(2, .loc 0 0 l3.length), (3, .loc 1 0 l4.length)], ag [(0, .lst true none (List.map D.bool l3)), (1, .lst true none (List.map D.bool l4))], 2⟩) (nr [0, 1]) ?_
    refine dG ?_
    refine And.intro (fun hn => nomatch hn) ?_
    intro hq
    have hq := hq.symm
    subst hq
    exact And.intro rfl rfl
   ·
    replace h := bz hc14 h
    refine bF (t := (x13 == 0)) rfl hc14 ?_
    refine bN ?_
    obtain ⟨r15, hr15, h⟩ := aE h
    refine ax ⟨tab [(0, b4 a0), (2, .loc 0 0 l3.length), (3, .loc 1 0 l4.length), (4, vi i5), (5, vi i6), (6, vi r15), (23, vi (a0.a.length : Int)), (24, vi i6)], ag [(0, .lst true none (List.map D.bool l3)), (1, .lst true none (List.map D.bool l4))], 2⟩ ?_ ?_
    ·
     iterate 8 refine q1 _ ?_
     refine step (v := .d (.cptr none (eL none (D.int .i16) x12) 0)) (bP (xs := a0.best) (e := (eL none (D.int .i16))) hx12 rfl rfl) ?_
     iterate 2 refine q1 _ ?_
     refine step (v := .d (.cptr none (.int .i16 x13) 0)) (bP (xs := x12) (e := (D.int .i16)) hx13 rfl rfl) ?_
     refine q1 _ ?_
     refine cL (r := .int .i64 r15) (bw (bw (bw (bw bh.nil')))) (tO hr15) ?_
     refine q1 _ ?_
     exact nR [0, 1]
    refine ax ⟨tab [(0, b4 a0), (2, .loc 0 0 l3.length), (3, .loc 1 0 l4.length), (4, vi i5), (5, vi i6), (6, vi r15), (23, vi (a0.a.length : Int)), (24, vi i6), (53, vb (decide (r15 ≥ 0)))], ag [(0, .lst true none (List.map D.bool l3)), (1, .lst true none (List.map D.bool l4))], 2⟩ ?_ ?_
    ·
     iterate 2 refine q1 _ ?_
     exact nR [0, 1]
    by_cases hc16 : decide (r15 ≥ 0) = true
    ·
     replace h := bx hc16 h
     refine bI (t := decide (r15 ≥ 0)) rfl hc16 ?_
     obtain ⟨x17, hx17, h⟩ := aE h
     obtain ⟨l18, hl18, h⟩ := aE h
     obtain ⟨x19, hx19, h⟩ := aE h
     obtain ⟨l20, hl20, h⟩ := aE h
     refine ax ⟨tab [(0, b4 a0), (2, .loc 0 0 l18.length), (3, .loc 1 0 l20.length), (6, vi r15), (23, vi (a0.a.length : Int)), (24, vi i6)], ag [(0, .lst true none (List.map D.bool l18)), (1, .lst true none (List.map D.bool l20))], 2⟩ ?_ ?_
     ·
      iterate 4 refine q1 _ ?_
      refine step (v := .ptr 0 i6.toNat 0) (eT (xs := l3) (e := D.bool) hx17 rfl rfl rfl rfl) ?_
      refine step (v := V.undef) (σ' := (aj (ag [(0, .lst true none (List.map D.bool l3)), (1, .lst true none (List.map D.bool l4))]) 0 (some (.lst true none (List.map D.bool l18))))) (n' := 2) (gP (e := D.bool) (v' := true) hl18 rfl rfl rfl rfl rfl) ?_
      refine step (v := .ptr 1 r15.toNat 0) (eT (xs := l4) (e := D.bool) hx19 rfl rfl rfl rfl) ?_
      refine step (v := V.undef) (σ' := (aj (aj (ag [(0, .lst true none (List.map D.bool l3)), (1, .lst true none (List.map D.bool l4))]) 0 (some (.lst true none (List.map D.bool l18)))) 1 (some (.lst true none (List.map D.bool l20))))) (n' := 2) (gP (e := D.bool) (v' := true) hl20 rfl rfl rfl rfl rfl) ?_
      exact aV.nil' (nm [0, 1] ⟨.d _, .le (id := 0) (fX hl18).symm (show 0 < 2 by decide), .le (id := 1) (fX hl20).symm (show 1 < 2 by decide), .d _, .d _, .d _, trivial⟩ ⟨⟨show 0 < 2 by decide, _, rfl, .lst _ _ _⟩, ⟨show 1 < 2 by decide, _, rfl, .lst _ _ _⟩, trivial⟩)
     have hh := aH h
     subst hh
     refine b7 ⟨tab [(0, b4 a0), (2, .loc 0 0 l18.length), (3, .loc 1 0 l20.length), (4, vi (IntKind.i64.wrap (r15 + 1))), (23, vi (a0.a.length : Int)), (24, vi i6)], ag [(0, .lst true none (List.map D.bool l18)), (1, .lst true none (List.map D.bool l20))], 2⟩ ?_ ?_
     ·
      iterate 3 refine q1 _ ?_
      exact nR [0, 1]
     exact And.intro rfl rfl
    ·
     replace h := bz hc16 h
     refine bF (t := decide (r15 ≥ 0)) rfl hc16 ?_
     have hh := aH h
     subst hh
     refine az.norm (s0 := ⟨tab [(0, b4 a0), (2, .loc 0 0 l3.length), (3, .loc 1 0 l4.length), (4, vi i5), (23, vi (a0.a.length : Int)), (24, vi i6)], ag [(0, .lst true none (List.map D.bool l3)), (1, .lst true none (List.map D.bool l4))], 2⟩) (nr [0, 1]) ?_
     refine bN ?_
     exact And.intro rfl rfl
  ·
   intro r' hq
   subst hq
   exact aH h
  rintro ⟨l21, l22, y23⟩ rfl
  show az _ _ _ _ _ ⟨tab [(0, b4 a0), (2, .loc 0 0 l21.length), (3, .loc 1 0 l22.length), (4, vi y23), (23, vi (a0.a.length : Int)), (24, vi i6)], ag [(0, .lst true none (List.map D.bool l21)), (1, .lst true none (List.map D.bool l22))], 2⟩
  have hh := aH h
  subst hh
  refine b7 ⟨tab [(0, b4 a0), (2, .loc 0 0 l21.length), (3, .loc 1 0 l22.length), (4, vi y23), (23, vi (a0.a.length : Int)), (24, vi (i6 + 1))], ag [(0, .lst true none (List.map D.bool l21)), (1, .lst true none (List.map D.bool l22))], 2⟩ ?_ ?_
  ·
   refine step (v := vi (i6 + 1)) (dR (dS hinv9 hgo8 hB7) rfl rfl) ?_
   refine q1 _ ?_
   exact nR [0, 1]
  exact And.intro rfl rfl
 ·
  rintro i6 ⟨l3, l4, i5⟩ hinv9 hgo8
  show az _ _ _ _ _ ⟨tab [(0, b4 a0), (2, .loc 0 0 l3.length), (3, .loc 1 0 l4.length), (4, vi i5), (23, vi (a0.a.length : Int)), (24, vi i6)], ag [(0, .lst true none (List.map D.bool l3)), (1, .lst true none (List.map D.bool l4))], 2⟩
  have hc10 : ¬ (decide (i6 < (a0.a.length : Int)) = true) := fun hq => hgo8 (of_decide_eq_true hq)
  refine ax ⟨tab [(0, b4 a0), (2, .loc 0 0 l3.length), (3, .loc 1 0 l4.length), (4, vi i5), (23, vi (a0.a.length : Int)), (24, vi i6), (25, vb (decide (i6 < (a0.a.length : Int))))], ag [(0, .lst true none (List.map D.bool l3)), (1, .lst true none (List.map D.bool l4))], 2⟩ ?_ ?_
  ·
   refine q1 _ ?_
   exact nR [0, 1]
  refine a9 ?_
  refine bF (t := decide (i6 < (a0.a.length : Int))) rfl hc10 ?_
  refine az.norm (s0 := ⟨tab [(2, .loc 0 0 l3.length), (3, .loc 1 0 l4.length)], ag [(0, .lst true none (List.map D.bool l3)), (1, .lst true none (List.map D.bool l4))], 2⟩) (nr [0, 1]) ?_
  refine dG ?_
  exact And.intro rfl rfl
 refine ax ⟨tab [(2, .loc 0 0 z25.length), (3, .loc 1 0 z26.length)], ag [(0, .lst true none (List.map D.bool z25)), (1, .lst true none (List.map D.bool z26))], 2⟩ ?_ ?_
 ·
  iterate 4 refine q1 _ ?_
  exact nR [0, 1]
 have hh := aH h
 subst hh
 refine bE ?_
 show FQ _ _ _ _
 exact gR (.inr rfl) (bG (v := .loc 0 0 z25.length) rfl (bG (v := .loc 1 0 z26.length) rfl rfl)) (RV.loc (xs := z25) (e := D.bool) rfl rfl (RV.loc (xs := z26) (e := D.bool) rfl rfl trivial))
theorem g7 {a0 : Int} {r : al} (h : ja a0 = some r) : PCall Try.prog 40 [.int .u16 a0] (am r) := by
 refine PCall.introN tj (show 1 ≤ 7 by decide) ?_
 refine az.norm (s0 := ⟨tab [(0, vh a0)], ag [], 0⟩) (nr []) ?_
 refine ax ⟨tab [(0, vh a0), (2, .ptr 0 0 0)], ag [(0, .var [aT [], .d (eL none (eL (some 2) aI) [])])], 1⟩ ?_ ?_
 ·
  refine step (v := .ptr 0 0 0) (σ' := (aj (ag []) 0 (some (.var [aT [], .d (eL none (eL (some 2) aI) [])])))) (n' := 1) rfl ?_
  exact nR [0]
 refine ax ⟨tab [(2, .ptr 0 0 0)], ag [(0, .var [aT ([(br.mk 3 a0)] : List br), .d (eL none (eL (some 2) aI) [])])], 1⟩ ?_ ?_
 ·
  refine q1 _ ?_
  refine step (v := .d (aI (br.mk 3 a0))) (iH (ds := [.int .i64 3, .int .u16 a0]) rfl) ?_
  refine q1 _ ?_
  refine step (v := dF (al.mk ([(br.mk 3 a0)] : List br) [])) (iH (ds := [eL (some 2) aI ([(br.mk 3 a0)] : List br), eL none (eL (some 2) aI) []]) rfl) ?_
  refine step (v := V.undef) (σ' := (aj (ag [(0, .var [aT [], .d (eL none (eL (some 2) aI) [])])]) 0 (some (.var [aT ([(br.mk 3 a0)] : List br), .d (eL none (eL (some 2) aI) [])])))) (n' := 1) rfl ?_
  exact nR [0]
 have hh := aH h
 subst hh
 refine bE ?_
 show FQ _ _ _ _
 exact cf (.inr rfl) (rg (ds := [eL (some 2) aI ([(br.mk 3 a0)] : List br), eL none (eL (some 2) aI) []]) rfl rfl (show 2 ≤ 2 by decide) rfl rfl) (RV.d trivial)
def tQ : cm := .mk 4
 (.seq (.ops false [
  ⟨some 1, .box none (.t 0) true, none⟩,
  ⟨some 2, .mov (.c .nilf), none⟩])
 (.seq (.ops false [
  ⟨some 3, .mkfunc 73 [(.t 1)], none⟩,
  ⟨some 2, .mov (.t 3), none⟩])
  (.ret)))
 [.t 2]
set_option maxRecDepth 100000 in
theorem tR : cn Try.prog 45 tQ = true := by kernel_rfl
@[reducible] def gh (a0 : List al) : D := .func 73 [.cptr none (eL (some 2) am a0) 0]
theorem tS {a0 : (List al)} : PCall Try.prog 45 [eL (some 2) am a0] (gh a0) := by
 refine PCall.introN tR (show 1 ≤ 4 by decide) ?_
 refine az.norm (s0 := ⟨tab [(0, aC a0)], ag [], 0⟩) (nr []) ?_
 refine oK ?_
 iterate 2 refine q1 _ ?_
 refine aV.nil' ?_
 refine oK ?_
 iterate 2 refine q1 _ ?_
 refine aV.nil' ?_
 refine bE ?_
 exact cf (.inr rfl) (bG (v := .d (gh a0)) rfl rfl) (RV.d trivial)
def tT : bk := .ops false [
 ⟨some 4, .mov (.c (.vec (some 4) [])), none⟩,
 ⟨some 5, .mov (.c (.int .i64 0)), none⟩]
def tU : bk := .seq (.ops false [
 ⟨some 13, .mov (.t 0), none⟩,
 ⟨some 14, .mov (.t 1), none⟩,
 ⟨some 15, .call false 42 [(.t 13), (.t 14)], none⟩,
 ⟨some 16, .un .not (.t 15), none⟩])
 (.cond (.t 16)
 (.seq (.ops false [
  ⟨some 4, .mov (.c (.vec (some 4) [])), none⟩,
  ⟨some 5, .mov (.c (.int .i64 2)), none⟩])
  (.ret))
 (.skip))
def tV : bk := .ops false [
 ⟨some 18, .mov (.t 0), none⟩,
 ⟨some 19, .mov (.t 1), none⟩,
 ⟨some 20, .call false 43 [(.t 18), (.t 19)], none⟩,
 ⟨some 21, .call false 44 [(.t 20)], none⟩,
 ⟨some 17, .mov (.t 21), none⟩,
 ⟨some 22, .extract (.t 17) 0, none⟩,
 ⟨some 23, .extract (.t 17) 1, none⟩,
 ⟨some 6, .alloc [.vec none []], none⟩,
 ⟨none, .store none (.t 6) (.t 22), none⟩,
 ⟨some 7, .mov (.t 23), none⟩]
def tW : bk := .ops false [
 ⟨some 8, .alloc [.nils], none⟩]
def tX : bk := .ops false [
 ⟨some 24, .mov (.t 0), none⟩,
 ⟨some 25, .call false 45 [(.t 24)], none⟩]
def tY : bk :=
 (.seq (.ops false [
  ⟨some 42, .bin .lss (.t 41) (.t 40), none⟩])
  (.seq (.cond (.t 42)
   (.skip)
   (.exit 2))
  (.seq (.block 3 (.seq (.ops false [
   ⟨some 43, .mov (.t 41), none⟩,
   ⟨some 44, .iaddr (some 2) (.t 39) (.t 41), none⟩,
   ⟨some 45, .load (some 2) (.t 44), none⟩,
   ⟨some 12, .alloc [.vec (some 2) [], .vec none []], none⟩,
   ⟨some 11, .mov (.t 43), none⟩,
   ⟨none, .store (some 2) (.t 12) (.t 45), none⟩])
   (.seq (.ops false [
    ⟨some 46, .mov (.t 7), none⟩,
    ⟨some 47, .mov (.t 11), none⟩,
    ⟨some 48, .iaddr none (.t 46) (.t 47), none⟩,
    ⟨some 49, .load none (.t 48), none⟩,
    ⟨some 50, .un .not (.t 49), none⟩])
   (.cond (.t 50)
   (.ops false [
    ⟨some 51, .load none (.t 8), none⟩,
    ⟨some 52, .mov (.t 11), none⟩,
    ⟨some 53, .load (some 2) (.t 12), none⟩,
    ⟨some 54, .build [.int .i64 0, .bool false, .vec (some 2) [], .vec none []] [(0, 1, (.t 52)), (2, 2, (.t 53))], none⟩,
    ⟨some 55, .bsliceI (some 4) [(.t 54)], none⟩,
    ⟨some 56, .append (some 4) (.t 51) (.t 55) false, none⟩,
    ⟨none, .store none (.t 8) (.t 56), none⟩])
   (.skip)))))
  (.ops false [
   ⟨some 57, .bin .add (.t 41) (.c (.int .i64 1)), none⟩,
   ⟨some 41, .mov (.t 57), none⟩]))))
def tZ : bk := .seq (.seq (.ops false [
 ⟨some 39, .mov (.t 1), none⟩,
 ⟨some 40, .len (.t 39), none⟩,
 ⟨some 41, .mov (.c (.int .i64 0)), none⟩])
 (.block 2 (.loop tY)))
 (.seq (.ops false [
  ⟨some 58, .load none (.t 8), none⟩,
  ⟨some 4, .mov (.t 58), none⟩,
  ⟨some 5, .mov (.c (.int .i64 0)), none⟩])
 (.ret))
def oP : List aQ := [⟨some 9, .mov (.t 26), none⟩]
def oQ : List aQ := [⟨some 10, .alloc [.vec (some 2) [], .vec none []], none⟩, ⟨none, .store (some 2) (.t 10) (.t 27), none⟩]
def oR : List aQ := [
 ⟨some 28, .load none (.t 6), none⟩,
 ⟨some 29, .mov (.t 9), none⟩,
 ⟨some 30, .iaddr none (.t 28) (.t 29), none⟩,
 ⟨some 31, .load none (.t 30), none⟩,
 ⟨some 32, .un .not (.t 31), none⟩]
def oS : List aQ := [
 ⟨some 33, .load none (.t 8), none⟩,
 ⟨some 34, .mov (.t 9), none⟩,
 ⟨some 35, .load (some 2) (.t 10), none⟩,
 ⟨some 36, .build [.int .i64 0, .bool false, .vec (some 2) [], .vec none []] [(0, 1, (.t 34)), (1, 1, (.c (.bool true))), (2, 2, (.t 35))], none⟩,
 ⟨some 37, .bsliceI (some 4) [(.t 36)], none⟩,
 ⟨some 38, .append (some 4) (.t 33) (.t 37) false, none⟩,
 ⟨none, .store none (.t 8) (.t 38), none⟩]
def gi (a0 a1 : List al) : S := ⟨tab [(0, aC a0), (1, aC a1)], ag [], 0⟩
def dq (a0 a1 : List al) (xy : List Bool × List Bool) : S := ⟨tab [(1, aC a1), (6, .ptr 0 0 0), (7, .d (eL none D.bool xy.2)), (8, .ptr 1 0 0), (25, .d (gh a0))], ag [(0, .var [.d (eL none D.bool xy.1)]), (1, .var [.loc 2 0 0]), (2, .lst false (some 4) [])], 3⟩
def fD (a1 : List al) (xy : List Bool × List Bool) : Nat → V := tab [(1, aC a1), (6, .ptr 0 0 0), (7, .d (eL none D.bool xy.2)), (8, .ptr 1 0 0)]
def du (xy : List Bool × List Bool) (l : List bg) : List (Nat × aK) := [(0, .var [.d (eL none D.bool xy.1)]), (1, .var [.loc 2 0 l.length]), (2, .lst false (some 4) (l.map bm))]
def gj (a1 : List al) (xy : List Bool × List Bool) (l : List bg) : S := ⟨fD a1 xy, ag (du xy l), 3⟩
def t1 (z : List bg) : S := ⟨tab [(4, .loc 0 0 z.length), (5, vi 0)], ag [(0, .lst false (some 4) (List.map bm z))], 1⟩
theorem t5 {a0 a1 : List al} : az Try.prog 59 0 tT (JN (gi a0 a1)) ⟨eS ([eL (some 2) am a0, eL (some 2) am a1].map V.d), fun _ => none, 0⟩ := by
 refine az.norm (s0 := gi a0 a1) (nr []) ?_
 refine b7 (gi a0 a1) ?_ ⟨rfl, rfl⟩
 iterate 2 refine q1 _ ?_
 exact nR []
theorem t6 {a0 a1 : List al} {r1 : Bool} (hr1 : gm a0 a1 = some r1) : az Try.prog 59 0 tU (fun e s => if r1 then e = .normal ∧ s = gi a0 a1 else e = .ret ∧ s = ⟨tab [(4, bZ []), (5, vi 2)], ag [], 0⟩) (gi a0 a1) := by
 refine ax ⟨tab [(0, aC a0), (1, aC a1), (16, vb (!r1))], ag [], 0⟩ ?_ ?_
 ·
  iterate 2 refine q1 _ ?_
  refine cL (r := .bool r1) (bw (bw bh.nil')) (oM hr1) ?_
  refine q1 _ ?_
  exact nR []
 cases r1 with
 | false =>
  refine bI (t := (!false)) rfl rfl ?_
  refine ax ⟨tab [(4, bZ []), (5, vi 2)], ag [], 0⟩ ?_ ?_
  ·
   iterate 2 refine q1 _ ?_
   exact nR []
  refine bE ?_
  exact ⟨rfl, rfl⟩
 | true =>
  refine bF (t := (!true)) rfl (by decide) ?_
  refine az.norm (s0 := gi a0 a1) (nr []) ?_
  exact bN ⟨rfl, rfl⟩
theorem t7 {a0 a1 : List al} {g : cC} {xy : List Bool × List Bool} (hr3 : gn a0 a1 = some g) (hr4 : hJ g = some xy) :
 az Try.prog 59 0 tV (JN ⟨tab [(0, aC a0), (1, aC a1), (6, .ptr 0 0 0), (7, .d (eL none D.bool xy.2))], ag [(0, .var [.d (eL none D.bool xy.1)])], 1⟩) (gi a0 a1) := by
 refine b7 ⟨tab [(0, aC a0), (1, aC a1), (6, .ptr 0 0 0), (7, .d (eL none D.bool xy.2))], ag [(0, .var [.d (eL none D.bool xy.1)])], 1⟩ ?_ ⟨rfl, rfl⟩
 iterate 2 refine q1 _ ?_
 refine cL (r := .cptr (some 3) (eW g) 0) (bw (bw bh.nil')) (oO hr3) ?_
 refine cL (r := .tup [eL none D.bool xy.1, eL none D.bool xy.2]) (bw bh.nil') (tP hr4) ?_
 iterate 6 refine q1 _ ?_
 exact nR [0]
theorem t8 {a0 a1 : List al} {xy : List Bool × List Bool} :
 az Try.prog 59 0 tW (JN ⟨tab [(0, aC a0), (1, aC a1), (6, .ptr 0 0 0), (7, .d (eL none D.bool xy.2)), (8, .ptr 1 0 0)], ag (du xy []), 3⟩) ⟨tab [(0, aC a0), (1, aC a1), (6, .ptr 0 0 0), (7, .d (eL none D.bool xy.2))], ag [(0, .var [.d (eL none D.bool xy.1)])], 1⟩ := by
 refine b7 ⟨tab [(0, aC a0), (1, aC a1), (6, .ptr 0 0 0), (7, .d (eL none D.bool xy.2)), (8, .ptr 1 0 0)], ag (du xy []), 3⟩ ?_ ⟨rfl, rfl⟩
 refine step (v := .ptr 1 0 0) (σ' := (aj (ag [(0, .var [.d (eL none D.bool xy.1)])]) 1 (some (.var [.d (.nils)])))) (n' := 2) rfl ?_
 refine aV.nil' ?_
 refine a8.trans (s1 := ⟨tab [(0, aC a0), (1, aC a1), (6, .ptr 0 0 0), (7, .d (eL none D.bool xy.2)), (8, .ptr 1 0 0)], ag [(0, .var [.d (eL none D.bool xy.1)]), (1, .var [.d .nils])], 2⟩) (nr [0, 1]) ?_
 exact a8.trans (k6 1 0 false (some 4) rfl rfl (show 1 ≠ 2 by decide)) (nr [0, 1, 2])
theorem t9 {a0 a1 : List al} {xy : List Bool × List Bool} :
 az Try.prog 59 0 tX (JN (dq a0 a1 xy)) ⟨tab [(0, aC a0), (1, aC a1), (6, .ptr 0 0 0), (7, .d (eL none D.bool xy.2)), (8, .ptr 1 0 0)], ag (du xy []), 3⟩ := by
 refine b7 (dq a0 a1 xy) ?_ ⟨rfl, rfl⟩
 refine q1 _ ?_
 refine cL (r := gh a0) (bw bh.nil') tS ?_
 exact nR [0, 1, 2]
theorem ua [Glob] {a1 : List al} {xy : List Bool × List Bool} {l1 z : List bg} (h : (bS (hM a1 xy.2) (bq 0 (a1.length : Int)) l1).bind (fun l => some l) = some z) :
 az Try.prog 59 0 tZ (fun e s => e = .ret ∧ s = t1 z) (gj a1 xy l1) := by
 obtain ⟨x, y⟩ := xy
 refine az.norm (s0 := ⟨tab [(1, aC a1), (7, .d (eL none D.bool y)), (8, .ptr 0 0 0)], ag [(0, .var [.loc 1 0 l1.length]), (1, .lst false (some 4) (List.map bm l1))], 2⟩) (nr [1, 2]) ?_
 refine a9 ?_
 refine ax ⟨tab [(7, .d (eL none D.bool y)), (8, .ptr 0 0 0), (39, aC a1), (40, vi (a1.length : Int)), (41, vi 0)], ag [(0, .var [.loc 1 0 l1.length]), (1, .lst false (some 4) (List.map bm l1))], 2⟩ ?_ ?_
 ·
  refine q1 _ ?_
  refine step (v := vi (a1.length : Int)) (bL (xs := a1) (e := am) rfl) ?_
  refine q1 _ ?_
  exact nR [0, 1]
 obtain ⟨z18, hl, h⟩ := aE h
 refine cd ?_
 refine gN (eA (a1.length : Int)) (fun (i6 : Int) (qq : (List bg)) => ⟨tab [(7, .d (eL none D.bool y)), (8, .ptr 0 0 0), (39, aC a1), (40, vi (a1.length : Int)), (41, vi i6)], ag [(0, .var [.loc 1 0 qq.length]), (1, .lst false (some 4) (List.map bm qq))], 2⟩) 2 (fun (qq : (List bg)) => ⟨tab [(8, .ptr 0 0 0)], ag [(0, .var [.loc 1 0 qq.length]), (1, .lst false (some 4) (List.map bm qq))], 2⟩) b8 eB hl (by unfold b8; omega) ?_ ?_ ?_
 ·
  rintro i6 l5 xr11 hinv9 hgo8 h
  show az _ _ _ _ _ ⟨tab [(7, .d (eL none D.bool y)), (8, .ptr 0 0 0), (39, aC a1), (40, vi (a1.length : Int)), (41, vi i6)], ag [(0, .var [.loc 1 0 l5.length]), (1, .lst false (some 4) (List.map bm l5))], 2⟩
  have hc10 : decide (i6 < (a1.length : Int)) = true := decide_eq_true hgo8
  refine ax ⟨tab [(7, .d (eL none D.bool y)), (8, .ptr 0 0 0), (39, aC a1), (40, vi (a1.length : Int)), (41, vi i6), (42, vb (decide (i6 < (a1.length : Int))))], ag [(0, .var [.loc 1 0 l5.length]), (1, .lst false (some 4) (List.map bm l5))], 2⟩ ?_ ?_
  ·
   refine q1 _ ?_
   exact nR [0, 1]
  refine dI 40 rfl fun hB7 => ?_
  refine a9 ?_
  refine bI (t := decide (i6 < (a1.length : Int))) rfl hc10 ?_
  refine bN ?_
  obtain ⟨l16, hv, h⟩ := aE h
  refine kY ⟨tab [(7, .d (eL none D.bool y)), (8, .ptr 0 0 0), (39, aC a1), (40, vi (a1.length : Int)), (41, vi i6)], ag [(0, .var [.loc 1 0 l16.length]), (1, .lst false (some 4) (List.map bm l16))], 2⟩ ?_ ?_
  ·
   replace h := hv
   refine cd ?_
   obtain ⟨x12, hx12, h⟩ := aE h
   refine ax ⟨tab [(7, .d (eL none D.bool y)), (8, .ptr 0 0 0), (11, vi i6), (12, .ptr 2 0 0), (39, aC a1), (40, vi (a1.length : Int)), (41, vi i6)], ag [(0, .var [.loc 1 0 l5.length]), (1, .lst false (some 4) (List.map bm l5)), (2, .var [aT x12.Match, .d (eL none (eL (some 2) aI) x12.Acts)])], 3⟩ ?_ ?_
   ·
    refine q1 _ ?_
    refine step (v := fi x12) (bP (xs := a1) (e := am) hx12 rfl rfl) ?_
    refine q1 _ ?_
    refine step (v := .ptr 2 0 0) (σ' := (aj (ag [(0, .var [.loc 1 0 l5.length]), (1, .lst false (some 4) (List.map bm l5))]) 2 (some (.var [aT [], .d (eL none (eL (some 2) aI) [])])))) (n' := 3) rfl ?_
    refine q1 _ ?_
    refine step (v := V.undef) (σ' := (aj (aj (ag [(0, .var [.loc 1 0 l5.length]), (1, .lst false (some 4) (List.map bm l5))]) 2 (some (.var [aT [], .d (eL none (eL (some 2) aI) [])]))) 2 (some (.var [aT x12.Match, .d (eL none (eL (some 2) aI) x12.Acts)])))) (n' := 3) rfl ?_
    exact nR [0, 1, 2]
   obtain ⟨x13, hx13, h⟩ := aE h
   refine ax ⟨tab [(7, .d (eL none D.bool y)), (8, .ptr 0 0 0), (11, vi i6), (12, .ptr 2 0 0), (39, aC a1), (40, vi (a1.length : Int)), (41, vi i6), (50, vb (!x13))], ag [(0, .var [.loc 1 0 l5.length]), (1, .lst false (some 4) (List.map bm l5)), (2, .var [aT x12.Match, .d (eL none (eL (some 2) aI) x12.Acts)])], 3⟩ ?_ ?_
   ·
    iterate 2 refine q1 _ ?_
    refine step (v := .d (.cptr none (.bool x13) 0)) (bP (xs := y) (e := D.bool) hx13 rfl rfl) ?_
    iterate 2 refine q1 _ ?_
    exact nR [0, 1, 2]
   by_cases hc14 : (!x13) = true
   ·
    replace h := bx hc14 h
    refine bI (t := (!x13)) rfl hc14 ?_
    obtain ⟨l15, hl15, h⟩ := aE h
    have hh := aH h
    subst hh
    refine b7 ⟨tab [(7, .d (eL none D.bool y)), (8, .ptr 0 0 0), (39, aC a1), (40, vi (a1.length : Int)), (41, vi i6)], ag [(0, .var [.loc 1 0 l15.length]), (1, .lst false (some 4) (List.map bm l15))], 2⟩ ?_ ?_
    ·
     iterate 2 refine q1 _ ?_
     refine step (v := dF x12) (iI (ds := [eL (some 2) aI x12.Match, eL none (eL (some 2) aI) x12.Acts]) rfl rfl (show 2 ≤ 2 by decide) rfl) ?_
     refine step (v := .d (bm (bg.mk i6 false x12))) (iH (ds := [.int .i64 i6, .bool false, eL (some 2) aI x12.Match, eL none (eL (some 2) aI) x12.Acts]) rfl) ?_
     refine q1 _ ?_
     refine step (v := .loc 3 0 l15.length) (σ' := (aj (aj (ag [(0, .var [.loc 1 0 l5.length]), (1, .lst false (some 4) (List.map bm l5)), (2, .var [aT x12.Match, .d (eL none (eL (some 2) aI) x12.Acts)])]) 1 none) 3 (some (.lst false (some 4) (List.map bm l15))))) (n' := 4) (fy (xs := l5) (ys := ([(bg.mk i6 false x12)] : List bg)) (e := bm) hl15 rfl rfl rfl (fx (xs := ([(bg.mk i6 false x12)] : List bg)) (e := bm) rfl)) ?_
     refine step (v := V.undef) (σ' := (aj (aj (aj (ag [(0, .var [.loc 1 0 l5.length]), (1, .lst false (some 4) (List.map bm l5)), (2, .var [aT x12.Match, .d (eL none (eL (some 2) aI) x12.Acts)])]) 1 none) 3 (some (.lst false (some 4) (List.map bm l15)))) 0 (some (.var [.loc 3 0 l15.length])))) (n' := 4) rfl ?_
     exact nR [0, 3]
    exact And.intro rfl rfl
   ·
    replace h := bz hc14 h
    refine bF (t := (!x13)) rfl hc14 ?_
    have hh := aH h
    subst hh
    refine az.norm (s0 := ⟨tab [(7, .d (eL none D.bool y)), (8, .ptr 0 0 0), (39, aC a1), (40, vi (a1.length : Int)), (41, vi i6)], ag [(0, .var [.loc 1 0 l5.length]), (1, .lst false (some 4) (List.map bm l5))], 2⟩) (nr [0, 1]) ?_
    refine bN ?_
    exact And.intro rfl rfl
  have hh := aH h
  subst hh
  refine b7 ⟨tab [(7, .d (eL none D.bool y)), (8, .ptr 0 0 0), (39, aC a1), (40, vi (a1.length : Int)), (41, vi (i6 + 1))], ag [(0, .var [.loc 1 0 l16.length]), (1, .lst false (some 4) (List.map bm l16))], 2⟩ ?_ ?_
  ·
   refine step (v := vi (i6 + 1)) (dR (dS hinv9 hgo8 hB7) rfl rfl) ?_
   refine q1 _ ?_
   exact nR [0, 1]
  exact And.intro rfl rfl
 ·
  rintro i6 l5 hinv9 hgo8
  show az _ _ _ _ _ ⟨tab [(7, .d (eL none D.bool y)), (8, .ptr 0 0 0), (39, aC a1), (40, vi (a1.length : Int)), (41, vi i6)], ag [(0, .var [.loc 1 0 l5.length]), (1, .lst false (some 4) (List.map bm l5))], 2⟩
  have hc10 : ¬ (decide (i6 < (a1.length : Int)) = true) := fun hq => hgo8 (of_decide_eq_true hq)
  refine ax ⟨tab [(7, .d (eL none D.bool y)), (8, .ptr 0 0 0), (39, aC a1), (40, vi (a1.length : Int)), (41, vi i6), (42, vb (decide (i6 < (a1.length : Int))))], ag [(0, .var [.loc 1 0 l5.length]), (1, .lst false (some 4) (List.map bm l5))], 2⟩ ?_ ?_
  ·
   refine q1 _ ?_
   exact nR [0, 1]
  refine a9 ?_
  refine bF (t := decide (i6 < (a1.length : Int))) rfl hc10 ?_
  refine az.norm (s0 := ⟨tab [(8, .ptr 0 0 0)], ag [(0, .var [.loc 1 0 l5.length]), (1, .lst false (some 4) (List.map bm l5))], 2⟩) (nr [0, 1]) ?_
  refine dG ?_
  exact And.intro rfl rfl
 refine ax ⟨tab [(4, .loc 0 0 z18.length), (5, vi 0)], ag [(0, .lst false (some 4) (List.map bm z18))], 1⟩ ?_ ?_
 ·
  iterate 3 refine q1 _ ?_
  exact nR [1]
 have hh := aH h
 subst hh
 refine bE ?_
 exact ⟨rfl, rfl⟩
def g8 (r : al) : List V := [aT r.Match, .d (eL none (eL (some 2) aI) r.Acts)]
def lK (a1 : List al) (xy : List Bool × List Bool) (l : List bg) (x : Int) (r : al) : S := ⟨aj (aj (fD a1 xy) 26 (vi x)) 27 (dF r), ag (du xy l), 3⟩
def lL (a1 : List al) (xy : List Bool × List Bool) (l : List bg) (x : Int) (r : al) : S := ⟨tab [(1, aC a1), (6, .ptr 0 0 0), (7, .d (eL none D.bool xy.2)), (8, .ptr 1 0 0), (9, vi x), (27, dF r)], ag (du xy l), 3⟩
def jW (a1 : List al) (xy : List Bool × List Bool) (l : List bg) (x : Int) (r : al) : S := ⟨tab [(1, aC a1), (6, .ptr 0 0 0), (7, .d (eL none D.bool xy.2)), (8, .ptr 1 0 0), (9, vi x), (10, .ptr 3 0 0)], ag (du xy l ++ [(3, .var (g8 r))]), 4⟩
def lM (a1 : List al) (xy : List Bool × List Bool) (l : List bg) (x : Int) (r : al) (b : Bool) : S := ⟨tab [(1, aC a1), (6, .ptr 0 0 0), (7, .d (eL none D.bool xy.2)), (8, .ptr 1 0 0), (9, vi x), (10, .ptr 3 0 0), (32, vb b)], ag (du xy l ++ [(3, .var (g8 r))]), 4⟩
theorem ub {a1 : List al} {xy : List Bool × List Bool} {l : List bg} {x : Int} {r : al} : aV Try.prog oP (lK a1 xy l x r) (fun s' => a8 2 s' (lL a1 xy l x r)) := by
 refine q1 _ ?_
 exact nR [0, 1, 2]
theorem uc {a1 : List al} {xy : List Bool × List Bool} {l : List bg} {x : Int} {r : al} : aV Try.prog oQ (lL a1 xy l x r) (fun s' => a8 2 s' (jW a1 xy l x r)) := by
 refine q1 _ ?_
 refine step (v := V.undef) (σ' := (aj (aj (ag (du xy l)) 3 (some (.var [aT [], .d (eL none (eL (some 2) aI) [])]))) 3 (some (.var (g8 r))))) (n' := 4) rfl ?_
 exact nR [0, 1, 2, 3]
theorem ud {a1 : List al} {xy : List Bool × List Bool} {l : List bg} {x : Int} {r : al} {b : Bool} (hb : aW xy.1 x = some b) : aV Try.prog oR (jW a1 xy l x r) (fun s' => a8 2 s' (lM a1 xy l x r (!b))) := by
 iterate 2 refine q1 _ ?_
 refine step (v := .d (.cptr none (.bool b) 0)) (bP (xs := xy.1) (e := D.bool) hb rfl rfl) ?_
 iterate 2 refine q1 _ ?_
 exact nR [0, 1, 2, 3]
theorem ue {a1 : List al} {xy : List Bool × List Bool} {l l2 : List bg} {x : Int} {r : al} {b : Bool} (hl : cU l [(bg.mk x true r)] = some l2) : aV Try.prog oS (lM a1 xy l x r b) (fun s' => a8 2 s' (gj a1 xy l2)) := by
 iterate 2 refine q1 _ ?_
 refine step (v := dF r) (iI (ds := [eL (some 2) aI r.Match, eL none (eL (some 2) aI) r.Acts]) rfl rfl (show 2 ≤ 2 by decide) rfl) ?_
 refine step (v := .d (bm (bg.mk x true r))) (iH (ds := [.int .i64 x, .bool true, eL (some 2) aI r.Match, eL none (eL (some 2) aI) r.Acts]) rfl) ?_
 refine q1 _ ?_
 refine step (v := .loc 4 0 l2.length) (σ' := (aj (aj (ag (du xy l ++ [(3, .var (g8 r))])) 2 none) 4 (some (.lst false (some 4) (List.map bm l2))))) (n' := 5) (fy (xs := l) (ys := ([(bg.mk x true r)] : List bg)) (e := bm) hl rfl rfl rfl (fx (xs := ([(bg.mk x true r)] : List bg)) (e := bm) rfl)) ?_
 refine step (v := V.undef) (σ' := (aj (aj (aj (ag (du xy l ++ [(3, .var (g8 r))])) 2 none) 4 (some (.lst false (some 4) (List.map bm l2)))) 1 (some (.var [.loc 4 0 l2.length])))) (n' := 5) rfl ?_
 exact nR [0, 1, 4]
theorem oT {σ : Type} (f : Int → σ → Option σ) : ∀ (l : List Int) (x : Int) (s : σ), bS f (l ++ [x]) s = (bS f l s).bind (f x)
 | [], x, s => by simp only [List.nil_append, bS, Option.bind_some]; cases f x s <;> rfl
 | i :: l, x, s => by
  simp only [List.cons_append, bS]
  cases f i s with
  | none => rfl
  | some s1 => simp only [Option.bind_some]; exact oT f l x s1
theorem oU {σ : Type} {f : Int → σ → Option σ} : ∀ {l : List Int} {s r : σ}, bS f l s = some r → ∀ i ∈ l, ∃ s1 s2, f i s1 = some s2
 | [], _, _, _, _, h => by cases h
 | j :: l, s, r, h, i, hi => by
  simp only [bS] at h
  obtain ⟨s1, h1, h2⟩ := aE h
  rcases List.mem_cons.1 hi with rfl | hi
  ·
   exact ⟨s, s1, h1⟩
  ·
   exact oU h2 i hi
theorem oV (n : Nat) : cN ((n : Int) - 1) (-1) = (ef n n).map fun (k : Nat) => (k : Int) := by
 unfold cN ef
 rw [show ((n : Int) - 1 - -1).toNat = n by omega, List.map_map]
 refine List.map_congr_left fun i hi => ?_
 have := List.mem_range.1 hi
 simp only [Function.comp]
 omega
theorem uf {O : Nat → Nat → Prop} {w : World} {k : Option Nat} {vs : List D} {u : Value} (h : DRel O w (.vec k vs) u) : (vs = [] ∧ ∃ a, u = .slice a 0 0) ∨
 ∃ (b off cap : Nat) (f : Nat → Nat → Value), u = .slice (some ⟨b, off, none⟩) vs.length cap ∧ ∀ (i : Nat) d (j : Nat) x, vs[i]? = some d → d.cells[j]? = some x → w.cell? ⟨b, off + i * ah k + j, none⟩ = some (f i j) ∧ ¬ O b (off + i * ah k + j) ∧ DRel O w x (f i j) := by
 cases h with
 | vecn _ a => exact .inl ⟨rfl, a, rfl⟩
 | vec _ _ b off cap f h1 h2 h3 h4 h5 h6 => exact .inr ⟨b, off, cap, f, rfl, fun i d j x hi hj => ⟨h3 i d j x hi hj, h4 i d j x hi hj, h5 i d j x hi hj⟩⟩
theorem ug {O : Nat → Nat → Prop} {w : World} {a0 : List al} {u : Value} (h : DRel O w (gh a0) u) : ∃ Bs o0 v, u = .func (.func 73) #[] #[.pointer (some ⟨Bs, o0, none⟩)] ∧ w.cell? ⟨Bs, o0, none⟩ = some v ∧ ¬ O Bs o0 ∧ DRel O w (eL (some 2) am a0) v := by
 cases h with
 | func f cap c hl hc =>
  have h0 := hc 0 (.cptr none (eL (some 2) am a0) 0) (c[0]'(by simpa using hl ▸ Nat.one_pos)) rfl (by simp)
  have hs : c.size = 1 := hl.symm
  generalize hq : c[0]'(by omega) = q at h0
  cases h0 with
  | cptr k d j b off f h1 h2 h3 h4 h5 =>
   refine ⟨b, off + 0, f 0, ?_, h2 0 _ rfl, h3 0 _ rfl, h4 0 _ rfl⟩
   congr 1
   apply Array.ext
   ·
    simpa using hs
   ·
    intro i h1 h2
    obtain rfl : i = 0 := by omega
    simpa using hq
theorem oW [Glob] {A : Nat → Nat → Prop} {μ : Nat → Option aJ} {s' : S} {a : Act} {w : World} {r : D} {e : Exit} (hq : FQ [.t 4, .t 5] r e s') (hs : cb 59 A μ s' a w) : ∃ cv, (results Try.f13 a.tmps).run Try.prog w = .ok cv w ∧ DRel A w r cv := by
 obtain ⟨_, rs, h1, d0, h2, h3⟩ := hq
 obtain ⟨cv, g1, g2⟩ := nz (P := Try.prog) (fn := Try.f13) (T := s'.T) (n := s'.n) hs.1.store hs.1.tmps (by kernel_rfl) h1
 exact ⟨cv, g1, (nC hs.1.store h2 g2).sub h3⟩
theorem oX {N : Nat} {A : Nat → Nat → Prop} {μ : Nat → Option aJ} {s : S} {a : Act} {w : World} (h : cb N A μ s a w) : a.defers = [] := by
 obtain ⟨l0, e0, h0⟩ := h.1.defers
 rw [e0]
 cases l0 with
 | nil => rfl
 | cons d ds =>
  obtain ⟨_, G, _, hG, _⟩ := h0 d (List.mem_cons_self ..)
  cases hG
@[reducible] def gD (D : Nat) : Glob := ⟨[], [], [{ target := .collected D, args := #[] }]⟩
theorem cb.toD {N : Nat} {A : Nat → Nat → Prop} {μ : Nat → Option aJ} {s : S} {a : Act} {w : World} {D : Nat} (h : cb N A μ s a w) (h0 : a.defers = []) : @cb (gD D) N A μ s { a with defers := { target := .collected D, args := #[] } :: a.defers } w := by
 refine ⟨@ca.mk (gD D) _ _ _ _ _ _ _ h.1.size ⟨[], ?_, fun d hd => by cases hd⟩ h.1.tmps (@aB.mk (gD D) _ _ _ _ h.1.store.blks h.1.store.inj h.1.store.amb h.1.store.alt ?_), h.2⟩
 ·
  simp only [h0]; rfl
 ·
  intro g l hm; cases hm
theorem uh {N : Nat} {A : Nat → Nat → Prop} {μ : Nat → Option aJ} {s : S} {a : Act} {w : World} {D : Nat} (h : @cb (gD D) N A μ s a w) : a.defers = [{ target := .collected D, args := #[] }] := by
 obtain ⟨l0, e0, h0⟩ := @ca.defers (gD D) _ _ _ _ _ _ _ h.1
 rw [e0]
 cases l0 with
 | nil => rfl
 | cons d ds =>
  obtain ⟨_, G, _, hG, _⟩ := h0 d (List.mem_cons_self ..)
  cases hG
theorem jX : ∀ {l : List (Nat × aK)}, (∀ p ∈ l, ∀ es, p.2 ≠ .mp es) → fB (ag l)
 | [], _ => fun id es h => by cases h
 | (i, b) :: l, h => fun id es hs => by
  simp only [ag] at hs
  split at hs
  ·
   cases hs; exact h (i, .mp es) (List.mem_cons_self ..) es rfl
  ·
   exact jX (fun p hp => h p (List.mem_cons_of_mem _ hp)) id es hs
theorem iT {a1 : List al} {xy : List Bool × List Bool} (i : Nat) : jS 2 (fD a1 xy i) := by
 unfold fD
 simp only [tab]
 repeat' split
 all_goals first | trivial | (show 0 < 2; decide) | (show 1 < 2; decide)
theorem jY {xy : List Bool × List Bool} {l : List bg} : fB (ag (du xy l)) := jX fun p hp es h => by
 simp only [du, List.mem_cons, List.not_mem_nil, or_false] at hp
 rcases hp with rfl | rfl | rfl <;> cases h
theorem lN {xy : List Bool × List Bool} {l : List bg} {r : al} : fB (ag (du xy l ++ [(3, .var (g8 r))])) := jX fun p hp es h => by
 simp only [du, List.mem_cons, List.not_mem_nil, or_false, List.cons_append, List.nil_append] at hp
 rcases hp with rfl | rfl | rfl | rfl <;> cases h
set_option maxHeartbeats 4000000 in
set_option maxRecDepth 20000 in
theorem lO {a0 : (List al)} {a1 : (List al)} {r : ((List bg) × Int)} (h : en a0 a1 = some r) : PCall Try.prog 13 [eL (some 2) am a0, eL (some 2) am a1] (.tup [eL (some 4) bm r.1, .int .i64 r.2]) := by
 unfold en at h
 obtain ⟨r1, hr1, h⟩ := aE h
 refine ⟨by kernel_rfl, fun A w vs halt hglob hlen hrel => ?_⟩
 have hs : aB A (fun _ => none) (fun _ => none) w := { blks := fun _ _ h => (nomatch h), inj := fun _ _ _ _ _ _ _ h => (nomatch h), amb := fun _ _ _ _ h => (nomatch h), alt := halt, glob := hglob.mono fun b o v h1 h2 => ⟨h1, fun h => h.elim (fun ⟨_, _, h3, _⟩ => by cases h3) h2⟩ }
 have hfull : ak A (fun _ => none) (fun _ => none) = A := by
  funext b o
  apply propext
  constructor
  ·
   rintro (⟨id, blk, h1, _⟩ | h)
   ·
    cases h1
   ·
    exact h
  ·
   exact .inr
 have hsz : vs.size = 2 := by simpa using hlen.symm
 have hsim : cb 59 A (fun _ => none) ⟨eS ([eL (some 2) am a0, eL (some 2) am a1].map V.d), fun _ => none, 0⟩ { tmps := vs ++ Array.replicate (Try.f13.ntmps - vs.size) Go.undef, defers := [] } w := by
  have hn : Try.f13.ntmps = 59 := rfl
  refine ⟨⟨by simp [hn, hsz], ⟨[], rfl, fun d h => by cases h⟩, fun i => ?_, hs⟩, fun _ _ => rfl⟩
  simp only [eS]
  by_cases hi : i < 2
  ·
   have e1 : ([eL (some 2) am a0, eL (some 2) am a1].map V.d)[i]? = some (.d ([eL (some 2) am a0, eL (some 2) am a1][i]'(by simpa using hi))) := by
    rw [List.getElem?_map, bt (by simpa using hi)]; rfl
   have e2 : vs[i]? = some (vs[i]'(by omega)) := by simp
   rw [Array.getD_eq_getD_getElem?, Array.getElem?_append_left (by omega), e1, e2]
   rw [hfull]
   exact .d _ _ (hrel i _ _ (bt _) e2)
  ·
   rw [List.getElem?_eq_none (by simpa using hi)]
   exact .d _ _ (.undef _)
 have below : ∀ {μ' σ' W}, NG 0 (fun _ => none) (fun _ => none) w μ' σ' W → Below w.heap.size w W := fun hg =>
  ⟨hg.os, hg.tape, hg.output, hg.size, fun b hb => hg.block b hb fun ⟨id, blk, k, h1, _⟩ => by cases h1⟩
 refine callsIn_wide.1 (callsIn_of_wp_marks (F := Fence.wide) (n := 4) Try.func13 rfl trivial ?_)
 refine wpIn_seq (wpIn_wide.2 (wp_mono (t5 _ (by kernel_rfl) A _ _ w hsim) fun e a w1 ⟨_, s1, μ1, ⟨he1, hs1⟩, sim1, ng1⟩ => ?_))
 subst he1; subst hs1
 refine wpIn_seq (wpIn_wide.2 (wp_mono (t6 hr1 _ (by kernel_rfl) A μ1 a w1 sim1) fun e a w2 ⟨_, s2, μ2, hb, sim2, ng2⟩ => ?_))
 replace ng2 := ng1.trans ng2
 cases r1 with
 | false =>
  obtain ⟨he, hs2⟩ := hb
  subst he; subst hs2
  replace h := bx rfl h
  have hh := aH h
  subst hh
  obtain ⟨cv, f1, f2⟩ := oW (r := .tup [eL (some 4) bm [], .int .i64 2]) (e := .ret) (gR (.inr rfl) (bG (v := bZ ([] : List bg)) rfl (bG (v := vi 2) rfl rfl)) (RV.d (RV.d trivial))) sim2
  show LeavesInM _ _ _ _ _ _ a.defers .returning w2
  rw [oX sim2]
  exact ⟨cv, f1, cv, rfl, f2, below ng2⟩
 | true =>
  obtain ⟨he, hs2⟩ := hb
  subst he; subst hs2
  replace h := bz (by decide) h
  obtain ⟨g, hg, h⟩ := aE h
  obtain ⟨xy, hxy, h⟩ := aE h
  obtain ⟨l1, hl1, h⟩ := aE h
  refine wpIn_seq (wpIn_wide.2 (wp_mono (t7 hg hxy _ (by kernel_rfl) A μ2 a w2 sim2) fun e a w3 ⟨_, s3, μ3, ⟨he3, hs3⟩, sim3, ng3⟩ => ?_))
  subst he3; subst hs3
  replace ng3 := ng2.trans ng3
  refine wpIn_seq (wpIn_wide.2 (wp_mono (t8 _ (by kernel_rfl) A μ3 a w3 sim3) fun e a w4 ⟨_, s4, μ4, ⟨he4, hs4⟩, sim4, ng4⟩ => ?_))
  subst he4; subst hs4
  replace ng4 := ng3.trans ng4
  refine wpIn_seq (wpIn_seq (wpIn_wide.2 (wp_mono (t9 _ (by kernel_rfl) A μ4 a w4 sim4) fun e a w5 ⟨_, s5, μ5, ⟨he5, hs5⟩, sim5, ng5⟩ => ?_)))
  subst he5; subst hs5
  replace ng5 := ng4.trans ng5
  clear ng1 ng2 ng3 ng4 sim1 sim2 sim3 sim4 hsim
  refine wpIn_block ?_
  -- what is ranged dQ
  have h25 : aw μ5 _ w5 (.d (gh a0)) (a.tmps.getD 25 Go.undef) := sim5.1.tmps 25
  have hD : DRel (ak A μ5 (dq a0 a1 xy).σ) w5 (gh a0) (a.tmps.getD 25 Go.undef) := by cases h25 with | d _ _ h => exact h
  obtain ⟨Bs, o0, v, e25, hc0, hn0, hv0⟩ := ug hD
  have hlen0 : a0.length ≤ 1000 := by
   have := aH hr1
   have h1 : eG (a0.length : Int) (a1.length : Int) ≤ 1000 := of_decide_eq_true this
   unfold eG at h1
   split at h1 <;> omega
  have hy : ∀ x : Nat, x < a0.length → ∃ y, aW xy.1 (x : Int) = some y := fun x hx => by
   rw [gK (by omega) (by omega), oV] at hl1
   have hm : (x : Int) ∈ (ef a0.length a0.length).map fun (k : Nat) => (k : Int) := List.mem_map.2 ⟨x, List.mem_map.2 ⟨a0.length - 1 - x, List.mem_range.2 (by omega), by omega⟩, rfl⟩
   obtain ⟨s1, s2, hq⟩ := oU hl1 _ hm
   unfold eY at hq
   obtain ⟨y, h1, _⟩ := aE hq
   exact ⟨y, h1⟩
  obtain ⟨av, cap, f, hv, hI, hf⟩ : ∃ (av : Option Addr) (cap : Nat) (f : Nat → Nat → Value), v = .slice av a0.length cap ∧ (a0.length = 0 ∨ ∃ b off, av = some ⟨b, off, none⟩ ∧ b < w5.heap.size ∧ (∀ j q, j < a0.length → q < 2 → b < w5.heap.size ∧ ¬ bJ μ5 (dq a0 a1 xy).σ b (off + j * 2 + q)) ∧ ∀ j q, j < a0.length → q < 2 → w5.cell? ⟨b, off + j * 2 + q, none⟩ = some (f j q)) ∧
   ∀ (j : Nat) r, a0[j]? = some r → DRel (ak A μ5 (dq a0 a1 xy).σ) w5 (am r) (.agg #[f j 0, f j 1]) := by
   rcases uf hv0 with ⟨e0, av, rfl⟩ | ⟨b, off, cap, f, rfl, hcl⟩
   ·
    have e0 : a0 = [] := by simpa using e0
    subst e0
    exact ⟨av, 0, fun _ _ => Go.undef, rfl, .inl rfl, fun j r hj => by simp at hj⟩
   ·
    have cell : ∀ j q, j < a0.length → q < 2 → ∃ x : D, (∀ r, a0[j]? = some r → (am r).cells[q]? = some x) ∧ w5.cell? ⟨b, off + j * 2 + q, none⟩ = some (f j q) ∧ ¬ ak A μ5 (dq a0 a1 xy).σ b (off + j * 2 + q) ∧ DRel (ak A μ5 (dq a0 a1 xy).σ) w5 x (f j q) := fun j q hj hq => by
     have hd : (a0.map am)[j]? = some (am a0[j]) := by simp [hj]
     have hcs : (am a0[j]).cells.length = 2 := rfl
     have hx : (am a0[j]).cells[q]? = some ((am a0[j]).cells[q]'(by omega)) := bt _
     obtain ⟨k1, k2, k3⟩ := hcl j _ q _ hd hx
     refine ⟨_, fun r hr => ?_, k1, k2, k3⟩
     rw [bt hj] at hr; cases hr; exact hx
    refine ⟨some ⟨b, off, none⟩, cap, f, by rw [List.length_map], ?_, fun j r hj => ?_⟩
    ·
     rcases Nat.eq_zero_or_pos a0.length with h0 | h0
     ·
      exact .inl h0
     ·
      have hb : b < w5.heap.size := by
       obtain ⟨_, _, k1, _⟩ := cell 0 0 h0 (by decide)
       obtain ⟨c, ty, fr, k2, _⟩ := fj k1
       exact b5 k2
      refine .inr ⟨b, off, rfl, hb, fun j q hj hq => ⟨hb, fun ho => ?_⟩, fun j q hj hq => ?_⟩
      ·
       obtain ⟨_, _, _, k2, _⟩ := cell j q hj hq
       exact k2 (.inl ho)
      ·
       obtain ⟨_, _, k1, _⟩ := cell j q hj hq
       exact k1
    ·
     have hjl := (List.getElem?_eq_some_iff.1 hj).1
     obtain ⟨x0, e0, _, _, q0⟩ := cell j 0 hjl (by decide)
     obtain ⟨x1, e1, _, _, q1⟩ := cell j 1 hjl (by decide)
     refine .agg _ _ rfl fun i d v hd hv => ?_
     match i, hd, hv with
     | 0, hd, hv => cases hv; have := e0 r hj; rw [show (am r).cells[0]? = some d from hd] at this; cases this; exact q0
     | 1, hd, hv => cases hv; have := e1 r hj; rw [show (am r).cells[1]? = some d from hd] at this; cases this; exact q1
     | (i + 2), hd, hv => simp at hv
  subst hv
  obtain ⟨c5, ty5, fr5, hb5, _⟩ := fj hc0
  have hBs := b5 hb5
  have hK0 : Bs < w5.heap.size ∧ ¬ bJ μ5 (dq a0 a1 xy).σ Bs o0 := ⟨hBs, fun ho => hn0 (.inl ho)⟩
  have hd5 : a.defers = [] := oX sim5
  have rs0 : RS 59 A μ5 (dq a0 a1 xy).σ w5 ⟨a.tmps, []⟩ (fD a1 xy) (gj a1 xy []) ⟨a.tmps, []⟩ w5 := by
   have hb : cb 59 A μ5 (gj a1 xy []) ⟨a.tmps, []⟩ w5 := by
    refine ⟨⟨sim5.1.size, ⟨[], rfl, fun d h => by cases h⟩, fun i => ?_, sim5.1.store⟩, sim5.2⟩
    have := sim5.1.tmps i
    by_cases h25 : i = 25
    ·
     subst h25; exact .d _ _ (.undef _)
    ·
     have e : (dq a0 a1 xy).T i = (gj a1 xy []).T i := by
      show tab _ i = tab _ i
      simp only [tab]
      repeat' split
      all_goals first | rfl | omega
     rw [← e]; exact this
   exact ⟨μ5, hb, hb, NG.refl _ _ _ _⟩
  refine sq (α := {x : Nat // x < a0.length}) (encs := fun x => #[Value.int .i64 x.1, .agg #[f x.1 0, f x.1 1]]) (Kp := fun W W' => ∀ bb o v, (bb < w5.heap.size ∧ ¬ bJ μ5 (dq a0 a1 xy).σ bb o) → W.cell? ⟨bb, o, none⟩ = some v → W'.cell? ⟨bb, o, none⟩ = some v) (Sp := fun _ => True) (N := a0.length) (w := w5) rfl (by decide) (gf := 73) (lb := #[.pointer (some ⟨Bs, o0, none⟩)]) e25 trivial (enters_of Try.func73 (by kernel_rfl) rfl) (S := fun ys => ys.map (·.1) = ef a0.length a0.length)
   (hseq := sw Fence.wide 3 trivial rfl (by decide) Bs o0 a0.length cap av f (by omega) (fun b o => b < w5.heap.size ∧ ¬ bJ μ5 (dq a0 a1 xy).σ b o) w5 hBs hK0 hc0 hI)
   (fun h k b o v h1 h2 => k b o v h1 (h b o v h1 h2)) (fun W l o o' _ hl ho b q v h1 h2 => fh.put hl ho o' b q v h1.1 h1.2 h2) (fun x => rfl)
   (fun pre W => ∃ l, bS (eY a0 xy.1) (pre.map fun y => (y.1 : Int)) [] = some l ∧ l.length ≤ pre.length ∧ RS 59 A μ5 (dq a0 a1 xy).σ w5 ⟨a.tmps, []⟩ (fD a1 xy) (gj a1 xy l) ⟨a.tmps, []⟩ W)
   (fun xs X Y row ⟨l, k1, k2, k3⟩ hgr hr => ⟨l, k1, k2, oI jY X Y row k3 hgr hr⟩)
   ⟨[], rfl, Nat.le_refl _, rs0⟩ ?_ ?_
  ·
   -- a round
   rintro q pre ⟨x, hx⟩ W hq ⟨l, hl, hll, hrs⟩ hlt
   obtain ⟨y, hyx⟩ := hy x hx
   have hr0 : a0[x]? = some a0[x] := bt hx
   refine ⟨fun a' W' => RS 59 A μ5 (dq a0 a1 xy).σ w5 ⟨a.tmps, []⟩ (fD a1 xy) (jW a1 xy l x a0[x]) a' W', fun a' => oI lN, ?_, ?_⟩
   ·
    have e0 : ({ tmps := ((#[26, 27] : Array Tmp).zip #[.int .i64 x, .agg #[f x 0, f x 1]]).foldl (fun t (p, v) => t.setIfInBounds p v) a.tmps, defers := [] } : Act) = (Act.put ⟨a.tmps, []⟩ (some 26) (.int .i64 x)).put (some 27) (.agg #[f x 0, f x 1]) := by simp [Act.put]
    have rs1 : RS 59 A μ5 (dq a0 a1 xy).σ w5 ⟨a.tmps, []⟩ (fD a1 xy) (lK a1 xy l x a0[x]) ((Act.put ⟨a.tmps, []⟩ (some 26) (.int .i64 x)).put (some 27) (.agg #[f x 0, f x 1])) W := by
     refine RS.put (RS.put hrs (d := 26) (v := vi x) (by decide) fun μ h1 h2 => .d _ _ (.int _ _ (gK (by omega) (by omega)))) (d := 27) (v := .d (am a0[x])) (by decide) fun μ h1 h2 => .d _ _ ?_
     exact (hf x _ hr0).mono (h2.keepCell sim5.1.store.alt)
    rw [← e0] at rs1
    refine wpIn_seq (RS.region (s := lK a1 xy l x a0[x]) (l := oP) (fun _ => trivial) iT (by kernel_rfl) (by decide) jY rs1 ub fun a1' W1 rs2 kr1 kp1 => ?_)
    refine RS.region (s := lL a1 xy l x a0[x]) (l := oQ) (fun _ => trivial) iT (by kernel_rfl) (by decide) jY rs2 uc fun a2' W2 rs3 kr2 kp2 => ?_
    exact ⟨fun k o h1 h2 => kr2 k o (kr1 k o h1 h2) h2, fun b o v h1 h2 => kp2 b o v h1.1 h1.2 (kp1 b o v h1.1 h1.2 h2), rs3⟩
   ·
    intro a' W' rs1
    refine wpIn_block (wpIn_seq (RS.region (s := jW a1 xy l x a0[x]) (l := oR) (fun _ => trivial) iT (by kernel_rfl) (by decide) lN rs1 (ud hyx) fun a1' W1 rs2 kr1 kp1 => ?_))
    have htold : bS (eY a0 xy.1) (List.map (fun (y : {x : Nat // x < a0.length}) => (y.1 : Int)) (pre ++ [⟨x, hx⟩])) [] = eY a0 xy.1 (x : Int) l := by
     rw [List.map_append, List.map_cons, List.map_nil, oT, hl, Option.bind_some]
    have hgx : aW a0 (x : Int) = some a0[x] := by rw [bV]; exact hr0
    refine wpIn_cond (t := !y) (rs2.tmp rfl) ?_
    cases y with
    | true =>
     refine wpIn_skip ?_
     refine ⟨rfl, kr1, fun b o v h1 h2 => kp1 b o v h1.1 h1.2 h2, l, ?_, by simp; omega, (RS.norm iT rs2 (s0 := gj a1 xy l) (nr [0, 1, 2])).back⟩
     rw [htold]
     simp only [eY, hyx, Option.bind_some]
     rfl
    | false =>
     have hap : cU l [(bg.mk x true a0[x])] = some (l ++ [bg.mk x true a0[x]]) := gU (by simp; omega)
     refine RS.region (s := lM a1 xy l x a0[x] (!false)) (l := oS) (fun _ => trivial) iT (by kernel_rfl) (by decide) lN rs2 (ue hap) fun a2' W2 rs3 kr2 kp2 => ?_
     refine ⟨rfl, fun k o h1 h2 => kr2 k o (kr1 k o h1 h2) h2, fun b o v h1 h2 => kp2 b o v h1.1 h1.2 (kp1 b o v h1.1 h1.2 h2), l ++ [bg.mk x true a0[x]], ?_, by simp; omega, rs3.back⟩
     rw [htold]
     simp only [eY, hyx, Option.bind_some, hgx, hap]
     rfl
  ·
   -- behind the loop
   rintro xs W hS ⟨l, hl, _, μ6, sim6, _, ng6⟩ hK
   have e1 : l = l1 := by
    rw [gK (by omega) (by omega), oV, ← hS, List.map_map] at hl1
    exact aH (hl.symm.trans hl1)
   subst e1
   show Code.wpIn _ _ _ _ _ _ _
   have hD : w5.heap.size < W.heap.size := b5 hK
   have simD := cb.toD (D := w5.heap.size) sim6 rfl
   rw [hd5]
   obtain ⟨l2, hl2, h⟩ := aE h
   have hh := aH h
   subst hh
   refine wpIn_wide.2 (wp_mono (@ua (gD w5.heap.size) a1 xy l l2 (by rw [hl2]; rfl) _ (by kernel_rfl) A μ6 _ W simD) fun e a7 w7 ⟨_, s7, μ7, ⟨he7, hs7⟩, sim7, ng7⟩ => ?_)
   subst he7; subst hs7
   show LeavesInM _ _ _ _ _ _ a7.defers .returning w7
   rw [uh sim7]
   have hK7 : w7.heap[w5.heap.size]? = some (.deferred (some [])) := by
    rw [ng7.block _ hD fun ⟨id, blk, k, h1, h2⟩ => ?_, hK]
    have := sim6.1.store.blks id blk h1
    cases blk with
    | lst m q els =>
     rcases this with ⟨g1, _⟩ | ⟨b, c, ty, fr, g1, g2, _⟩
     ·
      rw [h2] at g1; cases g1
     ·
      rw [h2] at g1; cases g1; rw [hK] at g2; cases g2
    | var cs =>
     obtain ⟨b, c, ty, fr, g1, g2, _⟩ := this
     rw [h2] at g1; cases g1; rw [hK] at g2; cases g2
    | mp es => exact (jY _ _ h1).elim
   have hk : eE w7 (w7.putObj w5.heap.size (.deferred none)) := jR (grownBy_putObj' _ _ _) fun r e => by cases e; exact ⟨_, hK7, jQ _⟩
   have sim8 := @cb.keepCl (gD w5.heap.size) _ _ _ _ _ _ _ sim7 (jX fun p hp es h => by simp only [List.mem_cons, List.not_mem_nil, or_false] at hp; subst hp; cases h) hk
   obtain ⟨cv, f1, f2⟩ := @oW (gD w5.heap.size) _ _ _ _ _ (.tup [eL (some 4) bm l2, .int .i64 0]) .ret (gR (.inr rfl) (bG (v := .loc 0 0 l2.length) rfl (bG (v := vi 0) rfl rfl)) (RV.loc (xs := l2) (e := bm) rfl rfl (RV.d trivial))) sim8
   refine ⟨by simp, .inl ⟨_, _, rfl, run_takeDeferred hK7, cv, f1, cv, rfl, f2, ?_⟩⟩
   have ngA := (ng5.trans (na := 0) ⟨ng6.os, ng6.tape, ng6.output, ng6.size, ng6.block, ng6.cells, ng6.own, ng6.ownB, fun id p h => by omega⟩).trans ng7
   exact below (ngA.turn (row := some w5.heap.size) (grownBy_putObj' _ _ _) fun r e => by cases e; exact ⟨ng5.size, _, hK7, jQ _⟩)
theorem ui {a0 : List al} {r : List al} (h : jb a0 = some r) : cy Try.prog 49 [.d (.vec (some 2) (List.map am a0))] (ag []) 0 (.loc 0 0 r.length) (ag [(0, .lst true (some 2) (List.map am r))]) 1 := by
 cases a0 with
 | nil =>
  refine cy.empty ?_ ?_
  ·
   have h : some ([] : List al) = some r := by simpa [jb, cU] using h
   refine cy.introN (bl := []) (bl' := [(0, .lst true (some 2) (List.map am r))]) lI (show 1 ≤ 8 by decide) rfl ?_
   refine az.norm (s0 := ⟨tab [(0, .d (.nils))], ag [], 0⟩) (nr []) ?_
   refine ax ⟨tab [(0, .d (.nils))], ag [], 0⟩ ?_ ?_
   ·
    refine q1 _ ?_
    exact nR []
   refine a9 ?_
   refine ax ⟨tab [(0, .d (.nils)), (4, vb true)], ag [], 0⟩ ?_ ?_
   ·
    iterate 2 refine q1 _ ?_
    exact nR []
   refine bI (t := true) rfl rfl ?_
   refine ax ⟨tab [(2, .d (.nils))], ag [], 0⟩ ?_ ?_
   ·
    refine q1 _ ?_
    exact nR []
   have hh := aH h
   subst hh
   refine az.norm (s0 := ⟨tab [(2, .loc 0 0 (([] : List al).length))], ag [(0, .lst true (some 2) (List.map am ([] : List al)))], 1⟩) (a8.trans (s2 := ⟨tab [(2, .loc 0 0 (([] : List al).length))], ag [(0, .lst true (some 2) (List.map am ([] : List al)))], 1⟩) (nT 2 true (some 2) rfl) (nr [0])) ?_
   refine bE ?_
   exact ⟨.inr rfl, _, rfl, rfl, ff.sub ⟨rfl, trivial⟩, rfl⟩
  ·
   refine cy.introN (bl := []) (bl' := [(0, .lst true (some 2) (List.map am r))]) lI (show 1 ≤ 8 by decide) rfl ?_
   refine az.norm (s0 := ⟨tab [(0, .mapr 0)], ag [], 0⟩) (nm [] ⟨.mp _, trivial⟩ trivial) ?_
   refine ax ⟨tab [(0, .mapr 0)], ag [], 0⟩ ?_ ?_
   ·
    refine q1 _ ?_
    exact aV.nil' (nm [] ⟨.mp _, trivial⟩ trivial)
   refine a9 ?_
   refine ax ⟨tab [(0, aC ([] : List al)), (4, vb false)], ag [], 0⟩ ?_ ?_
   ·
    iterate 2 refine q1 _ ?_
    exact aV.nil' (nm [] ⟨.nne _ _, .d _, trivial⟩ trivial)
   refine bF (t := false) rfl (by decide) ?_
   refine bN ?_
   obtain ⟨l1, hl1, h⟩ := aE h
   refine ax ⟨tab [(2, .loc 0 0 l1.length)], ag [(0, .lst true (some 2) (List.map am l1))], 1⟩ ?_ ?_
   ·
    refine step (v := .loc 0 0 (([] : List al).length)) (σ' := (aj (ag []) 0 (some (.lst true (some 2) (List.map am ([] : List al)))))) (n' := 1) rfl ?_
    refine q1 _ ?_
    refine step (v := .loc 1 0 l1.length) (σ' := (aj (aj (aj (ag []) 0 (some (.lst true (some 2) (List.map am ([] : List al))))) 0 none) 1 (some (.lst true (some 2) (List.map am l1))))) (n' := 2) (fy (xs := ([] : List al)) (ys := ([] : List al)) (e := am) hl1 rfl rfl rfl (fx (xs := ([] : List al)) (e := am) rfl)) ?_
    refine q1 _ ?_
    exact nR [1]
   have hh := aH h
   subst hh
   refine bE ?_
   exact ⟨.inr rfl, _, rfl, rfl, ff.sub ⟨rfl, trivial⟩, rfl⟩
 | cons x xs =>
  refine cy.introN (bl := []) (bl' := [(0, .lst true (some 2) (List.map am r))]) lI (show 1 ≤ 8 by decide) rfl ?_
  refine az.norm (s0 := ⟨tab [(0, aC (x :: xs))], ag [], 0⟩) (nr []) ?_
  refine ax ⟨tab [(0, aC (x :: xs))], ag [], 0⟩ ?_ ?_
  ·
   refine q1 _ ?_
   exact nR []
  refine a9 ?_
  refine ax ⟨tab [(0, aC (x :: xs)), (4, vb false)], ag [], 0⟩ ?_ ?_
  ·
   iterate 2 refine q1 _ ?_
   exact nR []
  refine bF (t := false) rfl (by decide) ?_
  refine bN ?_
  obtain ⟨l1, hl1, h⟩ := aE h
  refine ax ⟨tab [(2, .loc 0 0 l1.length)], ag [(0, .lst true (some 2) (List.map am l1))], 1⟩ ?_ ?_
  ·
   refine step (v := .loc 0 0 (([] : List al).length)) (σ' := (aj (ag []) 0 (some (.lst true (some 2) (List.map am ([] : List al)))))) (n' := 1) rfl ?_
   refine q1 _ ?_
   refine step (v := .loc 1 0 l1.length) (σ' := (aj (aj (aj (ag []) 0 (some (.lst true (some 2) (List.map am ([] : List al))))) 0 none) 1 (some (.lst true (some 2) (List.map am l1))))) (n' := 2) (fy (xs := ([] : List al)) (ys := (x :: xs)) (e := am) hl1 rfl rfl rfl (fx (xs := (x :: xs)) (e := am) rfl)) ?_
   refine q1 _ ?_
   exact nR [1]
  have hh := aH h
  subst hh
  refine bE ?_
  exact ⟨.inr rfl, _, rfl, rfl, ff.sub ⟨rfl, trivial⟩, rfl⟩
theorem uj {a0 : (List al)} {a1 : Int} {a2 : (List al)} {r : (List al)} (h : lS a0 a1 a2 = some r) : cy Try.prog 50 [.loc 0 0 a0.length, vi a1, aC a2] (ag [(0, .lst true (some 2) (List.map am a0))]) 1 (.loc 1 0 r.length) (ag [(1, .lst true (some 2) (List.map am r))]) 2 := by
 refine cy.introN (bl := [(0, .lst true (some 2) (List.map am a0))]) (bl' := [(1, .lst true (some 2) (List.map am r))]) tn (show 3 ≤ 95 by decide) rfl ?_
 refine az.norm (s0 := ⟨tab [(0, .loc 0 0 a0.length), (1, vi a1), (2, aC a2)], ag [(0, .lst true (some 2) (List.map am a0))], 1⟩) (nr [0]) ?_
 refine ax ⟨tab [(0, .loc 0 0 a0.length), (1, vi a1), (2, aC a2)], ag [(0, .lst true (some 2) (List.map am a0))], 1⟩ ?_ ?_
 ·
  refine q1 _ ?_
  exact nR [0]
 obtain ⟨l1, hl1, h⟩ := aE h
 refine ax ⟨tab [(0, .loc 0 0 a0.length), (1, vi a1), (2, aC a2)], ag [(0, .lst true (some 2) (List.map am a0))], 1⟩ ?_ ?_
 ·
  iterate 2 refine q1 _ ?_
  refine step (v := .loc 0 a1.toNat ((a0.length : Int).toNat - a1.toNat)) (rb (xs := a0) (e := am) hl1 rfl rfl rfl ⟨_, rfl⟩ rfl) ?_
  exact nR [0]
 refine ax ⟨tab [(0, .loc 0 0 a0.length), (1, vi a1), (2, aC a2), (7, vi (a2.length : Int))], ag [(0, .lst true (some 2) (List.map am a0))], 1⟩ ?_ ?_
 ·
  refine q1 _ ?_
  refine step (v := vi (a2.length : Int)) (bL (xs := a2) (e := am) rfl) ?_
  refine q1 _ ?_
  exact nR [0]
 refine a9 ?_
 refine ax ⟨tab [(0, .loc 0 0 a0.length), (1, vi a1), (2, aC a2), (7, vi (a2.length : Int)), (16, vb ((a2.length : Int) == 0))], ag [(0, .lst true (some 2) (List.map am a0))], 1⟩ ?_ ?_
 ·
  iterate 2 refine q1 _ ?_
  exact nR [0]
 by_cases hc2 : ((a2.length : Int) == 0) = true
 ·
  replace h := bx hc2 h
  refine bI (t := ((a2.length : Int) == 0)) rfl hc2 ?_
  refine ax ⟨tab [(6, .loc 0 0 a0.length)], ag [(0, .lst true (some 2) (List.map am a0))], 1⟩ ?_ ?_
  ·
   iterate 2 refine q1 _ ?_
   exact nR [0]
  have hh := aH h
  subst hh
  refine az.norm (s0 := ⟨tab [(6, .loc 1 0 a0.length)], ag [(1, .lst true (some 2) (List.map am a0))], 2⟩) (qI [0, 0] [1] (by decide) rfl (by decide) (by decide) ⟨.lc 1, trivial⟩ ⟨⟨show 1 < 2 by decide, _, rfl, .lst _ _ _⟩, trivial⟩) ?_
  refine bE ?_
  exact ⟨.inr rfl, _, rfl, rfl, ff.sub ⟨rfl, trivial⟩, rfl⟩
 ·
  replace h := bz hc2 h
  refine bF (t := ((a2.length : Int) == 0)) rfl hc2 ?_
  refine bN ?_
  refine ax ⟨tab [(0, .loc 0 0 a0.length), (1, vi a1), (2, aC a2), (7, vi (a2.length : Int)), (8, vi (a0.length : Int))], ag [(0, .lst true (some 2) (List.map am a0))], 1⟩ ?_ ?_
  ·
   iterate 3 refine q1 _ ?_
   exact nR [0]
  refine a9 ?_
  refine ax ⟨tab [(0, .loc 0 0 a0.length), (1, vi a1), (2, aC a2), (7, vi (a2.length : Int)), (8, vi (a0.length : Int)), (22, vb (a1 == (a0.length : Int)))], ag [(0, .lst true (some 2) (List.map am a0))], 1⟩ ?_ ?_
  ·
   iterate 3 refine q1 _ ?_
   exact nR [0]
  by_cases hc3 : (a1 == (a0.length : Int)) = true
  ·
   replace h := bx hc3 h
   refine bI (t := (a1 == (a0.length : Int))) rfl hc3 ?_
   obtain ⟨l4, hl4, h⟩ := aE h
   refine ax ⟨tab [(6, .loc 1 0 l4.length)], ag [(1, .lst true (some 2) (List.map am l4))], 2⟩ ?_ ?_
   ·
    iterate 2 refine q1 _ ?_
    refine step (v := .loc 1 0 l4.length) (σ' := (aj (aj (ag [(0, .lst true (some 2) (List.map am a0))]) 0 none) 1 (some (.lst true (some 2) (List.map am l4))))) (n' := 2) (fy (xs := a0) (ys := a2) (e := am) hl4 rfl rfl rfl (fx (xs := a2) (e := am) rfl)) ?_
    refine q1 _ ?_
    exact nR [0, 1]
   have hh := aH h
   subst hh
   refine bE ?_
   exact ⟨.inr rfl, _, rfl, rfl, ff.sub ⟨rfl, trivial⟩, rfl⟩
  ·
   replace h := bz hc3 h
   refine bF (t := (a1 == (a0.length : Int))) rfl hc3 ?_
   refine bN ?_
   refine a9 ?_
   cases h
set_option maxRecDepth 100000 in
theorem uk : SlLaysE0.n45 Try.prog ⟨fun _ => 52, fun t => if t = 22 then 22 else if t = 23 then 39 else if t = 0 then 0 else if t = 3 then 3 else if t = 4 then 4 else t, fun x => x⟩ where
 mixed := by kernel_rfl
 f45 := ⟨Try.f52.name, by kernel_rfl, by kernel_rfl⟩
 t0 := Try.underlying0
 a0 := Try.isAgg0
 z0 := Try.sizeOf0
 v0 := Try.zeroValue0
 t3 := Try.underlying3
 a3 := Try.isAgg3
 z3 := Try.sizeOf3
 v3 := Try.zeroValue3
 t4 := Try.underlying4
 a4 := Try.isAgg4
 z4 := Try.sizeOf4
 v4 := Try.zeroValue4
 t22 := Try.underlying22
 a22 := Try.isAgg22
 z22 := Try.sizeOf22
 v22 := Try.zeroValue22
theorem ul {a0 : List al} {a1 a2 : Int} {r : List al} (h : jc a0 a1 a2 = some r) : cy Try.prog 52 [.loc 0 0 a0.length, vi a1, vi a2] (ag [(0, .lst true (some 2) (List.map am a0))]) 1 (.loc 0 0 r.length) (ag [(0, .lst true (some 2) (List.map am r))]) 1 := by
 unfold jc at h
 split at h
 ·
  rename_i hc
  cases h
  have := rR uk (some 2) (by decide) (by kernel_rfl) Try.sizeOf39 _ Try.zeroValue39 rfl (by decide) (by kernel_rfl) (els := List.map am a0) (i := a1.toNat) (j := a2.toNat) (by omega) (by rw [List.length_map]; omega)
  rw [show ((a1.toNat : Nat) : Int) = a1 by omega, show ((a2.toNat : Nat) : Int) = a2 by omega, ← List.map_take, ← List.map_drop, ← List.map_append, List.length_map, List.length_map] at this
  exact this
 ·
  cases h
theorem oY {a0 : (List al)} {a1 : (List bg)} {r : ((List al) × Bool)} (h : hP a0 a1 = some r) : PCall Try.prog 18 [eL (some 2) am a0, eL (some 4) bm a1] (.tup [eL (some 2) am r.1, .bool r.2]) := by
 refine PCall.introN tr (show 2 ≤ 64 by decide) ?_
 refine az.norm (s0 := ⟨tab [(0, aC a0), (1, bZ a1)], ag [], 0⟩) (nr []) ?_
 refine ax ⟨tab [(0, aC a0), (1, bZ a1)], ag [], 0⟩ ?_ ?_
 ·
  iterate 2 refine q1 _ ?_
  exact nR []
 obtain ⟨r1, hr1, h⟩ := aE h
 refine ax ⟨tab [(0, .loc 0 0 r1.length), (1, bZ a1)], ag [(0, .lst true (some 2) (List.map am r1))], 1⟩ ?_ ?_
 ·
  refine q1 _ ?_
  refine jz (v := .loc 0 0 r1.length) (σ' := (aj (ag []) 0 (some (.lst true (some 2) (List.map am r1))))) (n' := 1) (kX [] (ui hr1) (show 0 ≤ 1 by decide) (by decide) (show ∀ i ∈ [], i < 0 by decide) (k9 (show 0 < 1 by decide) la) (ce.c (.d _) ce.nil0) SN.nil0) (show 0 ≤ 1 by decide) ?_
  refine q1 _ ?_
  exact nR [0]
 refine a9 ?_
 refine ax ⟨tab [(0, .loc 0 0 r1.length), (10, bZ a1), (11, vi (a1.length : Int)), (12, vi 0)], ag [(0, .lst true (some 2) (List.map am r1))], 1⟩ ?_ ?_
 ·
  refine q1 _ ?_
  refine step (v := vi (a1.length : Int)) (bL (xs := a1) (e := bm) rfl) ?_
  refine q1 _ ?_
  exact nR [0]
 obtain ⟨q24, hl, h⟩ := aE h
 refine cd ?_
 refine gO (eA (a1.length : Int)) (fun (i3 : Int) (qq : (List al)) => ⟨tab [(0, .loc 0 0 qq.length), (10, bZ a1), (11, vi (a1.length : Int)), (12, vi i3)], ag [(0, .lst true (some 2) (List.map am qq))], 1⟩) 0 (fun (qq : (List al)) => ⟨tab [(0, .loc 0 0 qq.length)], ag [(0, .lst true (some 2) (List.map am qq))], 1⟩) b8 eB (r := r) hl (by unfold b8; omega) ?_ ?_ ?_ ?_
 ·
  rintro i3 l2 xr8 hinv6 hgo5 h
  show az _ _ _ _ _ ⟨tab [(0, .loc 0 0 l2.length), (10, bZ a1), (11, vi (a1.length : Int)), (12, vi i3)], ag [(0, .lst true (some 2) (List.map am l2))], 1⟩
  have hc7 : decide (i3 < (a1.length : Int)) = true := decide_eq_true hgo5
  refine ax ⟨tab [(0, .loc 0 0 l2.length), (10, bZ a1), (11, vi (a1.length : Int)), (12, vi i3), (13, vb (decide (i3 < (a1.length : Int))))], ag [(0, .lst true (some 2) (List.map am l2))], 1⟩ ?_ ?_
  ·
   refine q1 _ ?_
   exact nR [0]
  refine dI 11 rfl fun hB4 => ?_
  refine a9 ?_
  refine bI (t := decide (i3 < (a1.length : Int))) rfl hc7 ?_
  refine bN ?_
  obtain ⟨q22, hv, h⟩ := aE h
  refine nM (fun (qq : (List al)) => ⟨tab [(0, .loc 0 0 qq.length), (10, bZ a1), (11, vi (a1.length : Int)), (12, vi i3)], ag [(0, .lst true (some 2) (List.map am qq))], 1⟩) (xv := q22) (r := xr8) ?_ ?_ ?_
  ·
   replace h := hv
   refine cd ?_
   obtain ⟨x9, hx9, h⟩ := aE h
   refine ax ⟨tab [(0, .loc 0 0 l2.length), (7, .ptr 1 0 0), (10, bZ a1), (11, vi (a1.length : Int)), (12, vi i3)], ag [(0, .lst true (some 2) (List.map am l2)), (1, .var [vi x9.At, vb x9.Out, aT x9.Row.Match, .d (eL none (eL (some 2) aI) x9.Row.Acts)])], 2⟩ ?_ ?_
   ·
    refine step (v := .d (.cptr (some 4) (bm x9) 0)) (bP (xs := a1) (e := bm) hx9 rfl rfl) ?_
    refine q1 _ ?_
    refine step (v := .ptr 1 0 0) (σ' := (aj (ag [(0, .lst true (some 2) (List.map am l2))]) 1 (some (.var [vi 0, vb false, aT [], .d (eL none (eL (some 2) aI) [])])))) (n' := 2) rfl ?_
    refine step (v := V.undef) (σ' := (aj (aj (ag [(0, .lst true (some 2) (List.map am l2))]) 1 (some (.var [vi 0, vb false, aT [], .d (eL none (eL (some 2) aI) [])]))) 1 (some (.var [vi x9.At, vb x9.Out, aT x9.Row.Match, .d (eL none (eL (some 2) aI) x9.Row.Acts)])))) (n' := 2) rfl ?_
    exact nR [0, 1]
   refine cd ?_
   refine ax ⟨tab [(0, .loc 0 0 l2.length), (7, .ptr 1 0 0), (10, bZ a1), (11, vi (a1.length : Int)), (12, vi i3), (23, vb ((decide (x9.At < 0)) || (decide (x9.At > (l2.length : Int)))))], ag [(0, .lst true (some 2) (List.map am l2)), (1, .var [vi x9.At, vb x9.Out, aT x9.Row.Match, .d (eL none (eL (some 2) aI) x9.Row.Acts)])], 2⟩ ?_ ?_
   ·
    iterate 4 refine q1 _ ?_
    by_cases hg10 : decide (x9.At < 0) = true
    ·
     iterate 5 refine qX (decide (x9.At < 0)) (by rw [hg10]; decide) ?_
     refine step (v := vb true) (cS (b := decide (x9.At < 0)) rfl hg10 rfl) ?_
     refine q1 _ ?_
     exact aV.nil' (nm [0, 1] ⟨.lc 0, .pt 1, .d _, .d _, .d _, .eq (by first | (simp [hg10]; done) | (simp_all; done) | grind), trivial⟩ ⟨⟨show 0 < 2 by decide, _, rfl, .lst _ _ _⟩, ⟨show 1 < 2 by decide, _, rfl, .vars ⟨.d _, .d _, .d _, .d _, trivial⟩⟩, trivial⟩)
    ·
     refine qG (decide (x9.At < 0)) (Bool.eq_false_iff.2 hg10) ?_
     refine q1 _ ?_
     refine qG (decide (x9.At < 0)) (Bool.eq_false_iff.2 hg10) ?_
     refine q1 _ ?_
     refine qG (decide (x9.At < 0)) (Bool.eq_false_iff.2 hg10) ?_
     refine q1 _ ?_
     refine qG (decide (x9.At < 0)) (Bool.eq_false_iff.2 hg10) ?_
     refine q1 _ ?_
     refine qG (decide (x9.At < 0)) (Bool.eq_false_iff.2 hg10) ?_
     refine q1 _ ?_
     refine step (v := vb (decide (x9.At > (l2.length : Int)))) (ba (b := decide (x9.At < 0)) rfl hg10 rfl) ?_
     refine q1 _ ?_
     exact aV.nil' (nm [0, 1] ⟨.lc 0, .pt 1, .d _, .d _, .d _, .eq (by first | (simp [hg10]; done) | (simp_all; done) | grind), trivial⟩ ⟨⟨show 0 < 2 by decide, _, rfl, .lst _ _ _⟩, ⟨show 1 < 2 by decide, _, rfl, .vars ⟨.d _, .d _, .d _, .d _, trivial⟩⟩, trivial⟩)
   by_cases hc11 : ((decide (x9.At < 0)) || (decide (x9.At > (l2.length : Int)))) = true
   ·
    replace h := bx hc11 h
    refine bI (t := ((decide (x9.At < 0)) || (decide (x9.At > (l2.length : Int))))) rfl hc11 ?_
    refine ax ⟨tab [(4, aC ([] : List al)), (5, vb false)], ag [], 0⟩ ?_ ?_
    ·
     iterate 2 refine q1 _ ?_
     exact nR []
    obtain ⟨r12, kr12, hr⟩ := eC (o := some (Br.ret (([] : List al), false))) (g := Sum.inr) h
    subst hr
    have h := kr12
    obtain ⟨r13, kr13, hr⟩ := eC (o := some (([] : List al), false)) (g := Br.ret) h
    subst hr
    have h := kr13
    have hh := aH h
    subst hh
    refine bE ?_
    refine And.intro (fun hn => nomatch hn) ?_
    intro hq
    have hq := hq.symm
    subst hq
    refine And.intro (fun hn => nomatch hn) ?_
    intro hq
    have hq := hq.symm
    subst hq
    show FQ _ _ _ _
    exact gR (.inr rfl) (bG (v := aC ([] : List al)) rfl (bG (v := vb false) rfl rfl)) (RV.d (RV.d trivial))
   ·
    replace h := bz hc11 h
    refine bF (t := ((decide (x9.At < 0)) || (decide (x9.At > (l2.length : Int))))) rfl hc11 ?_
    refine ax ⟨tab [(0, .loc 0 0 l2.length), (7, .ptr 1 0 0), (10, bZ a1), (11, vi (a1.length : Int)), (12, vi i3), (34, vb (!x9.Out))], ag [(0, .lst true (some 2) (List.map am l2)), (1, .var [vi x9.At, vb x9.Out, aT x9.Row.Match, .d (eL none (eL (some 2) aI) x9.Row.Acts)])], 2⟩ ?_ ?_
    ·
     iterate 4 refine q1 _ ?_
     exact nR [0, 1]
    by_cases hc12 : (!x9.Out) = true
    ·
     replace h := bx hc12 h
     refine bI (t := (!x9.Out)) rfl hc12 ?_
     obtain ⟨r13, hr13, h⟩ := aE h
     have hh := aH h
     subst hh
     refine b7 ⟨tab [(0, .loc 0 0 r13.length), (10, bZ a1), (11, vi (a1.length : Int)), (12, vi i3)], ag [(0, .lst true (some 2) (List.map am r13))], 1⟩ ?_ ?_
     ·
      iterate 4 refine q1 _ ?_
      refine step (v := dF x9.Row) (iI (ds := [eL (some 2) aI x9.Row.Match, eL none (eL (some 2) aI) x9.Row.Acts]) rfl rfl (show 4 ≤ 4 by decide) rfl) ?_
      refine q1 _ ?_
      refine jz (v := .loc 2 0 r13.length) (σ' := (aj (aj (ag [(0, .lst true (some 2) (List.map am l2)), (1, .var [vi x9.At, vb x9.Out, aT x9.Row.Match, .d (eL none (eL (some 2) aI) x9.Row.Acts)])]) 0 none) 2 (some (.lst true (some 2) (List.map am r13))))) (n' := 3) (kX [0] (uj hr13) (show 1 ≤ 2 by decide) (by decide) (show ∀ i ∈ [0], i < 2 by decide) (k9 (show 1 < 2 by decide) la) (ce.c (.lc 0) (ce.c (.d _) (ce.c (.d _) ce.nil0))) (SN.c (show 0 < 1 by decide) rfl (.lst _ _ _) SN.nil0)) (show 2 ≤ 3 by decide) ?_
      refine q1 _ ?_
      exact nR [2]
     exact And.intro rfl rfl
    ·
     replace h := bz hc12 h
     refine bF (t := (!x9.Out)) rfl hc12 ?_
     obtain ⟨y17, hv, h⟩ := aE h
     refine ax ⟨tab [(0, .loc 0 0 l2.length), (7, .ptr 1 0 0), (10, bZ a1), (11, vi (a1.length : Int)), (12, vi i3), (45, vb y17)], ag [(0, .lst true (some 2) (List.map am l2)), (1, .var [vi x9.At, vb x9.Out, aT x9.Row.Match, .d (eL none (eL (some 2) aI) x9.Row.Acts)])], 2⟩ ?_ ?_
     ·
      iterate 6 refine q1 _ ?_
      by_cases hg14 : (x9.At == (l2.length : Int)) = true
      ·
       replace hv := bx hg14 hv
       iterate 9 refine qX (x9.At == (l2.length : Int)) (by rw [hg14]; decide) ?_
       refine step (v := vb true) (cS (b := (x9.At == (l2.length : Int))) rfl hg14 rfl) ?_
       refine q1 _ ?_
       have hh := aH hv
       subst hh
       exact nR [0, 1]
      ·
       replace hv := bz hg14 hv
       obtain ⟨x15, hx15, hv⟩ := aE hv
       obtain ⟨r16, hr16, hv⟩ := aE hv
       refine qG (x9.At == (l2.length : Int)) (Bool.eq_false_iff.2 hg14) ?_
       refine q1 _ ?_
       refine qG (x9.At == (l2.length : Int)) (Bool.eq_false_iff.2 hg14) ?_
       refine q1 _ ?_
       refine qG (x9.At == (l2.length : Int)) (Bool.eq_false_iff.2 hg14) ?_
       refine q1 _ ?_
       refine qG (x9.At == (l2.length : Int)) (Bool.eq_false_iff.2 hg14) ?_
       refine step (v := .ptr 0 x9.At.toNat 0) (eT (xs := l2) (e := am) hx15 rfl rfl rfl rfl) ?_
       refine qG (x9.At == (l2.length : Int)) (Bool.eq_false_iff.2 hg14) ?_
       refine step (v := dF x15) (k4 (xs := l2) (e := am) hx15 rfl rfl rfl) ?_
       refine qG (x9.At == (l2.length : Int)) (Bool.eq_false_iff.2 hg14) ?_
       refine q1 _ ?_
       refine qG (x9.At == (l2.length : Int)) (Bool.eq_false_iff.2 hg14) ?_
       refine step (v := dF x9.Row) (iI (ds := [eL (some 2) aI x9.Row.Match, eL none (eL (some 2) aI) x9.Row.Acts]) rfl rfl (show 4 ≤ 4 by decide) rfl) ?_
       refine qG (x9.At == (l2.length : Int)) (Bool.eq_false_iff.2 hg14) ?_
       refine cL (r := .bool r16) (bw (bw bh.nil')) (oN hr16) ?_
       refine qG (x9.At == (l2.length : Int)) (Bool.eq_false_iff.2 hg14) ?_
       refine q1 _ ?_
       refine step (v := vb (!r16)) (ba (b := (x9.At == (l2.length : Int))) rfl hg14 rfl) ?_
       refine q1 _ ?_
       have hh := aH hv
       subst hh
       exact nR [0, 1]
     by_cases hc19 : y17 = true
     ·
      replace h := bx hc19 h
      refine bI (t := y17) rfl hc19 ?_
      refine ax ⟨tab [(4, aC ([] : List al)), (5, vb false)], ag [], 0⟩ ?_ ?_
      ·
       iterate 2 refine q1 _ ?_
       exact nR []
      obtain ⟨r20, kr20, hr⟩ := eC (o := some (Br.ret (([] : List al), false))) (g := Sum.inr) h
      subst hr
      have h := kr20
      obtain ⟨r21, kr21, hr⟩ := eC (o := some (([] : List al), false)) (g := Br.ret) h
      subst hr
      have h := kr21
      have hh := aH h
      subst hh
      refine bE ?_
      refine And.intro (fun hn => nomatch hn) ?_
      intro hq
      have hq := hq.symm
      subst hq
      refine And.intro (fun hn => nomatch hn) ?_
      intro hq
      have hq := hq.symm
      subst hq
      show FQ _ _ _ _
      exact gR (.inr rfl) (bG (v := aC ([] : List al)) rfl (bG (v := vb false) rfl rfl)) (RV.d (RV.d trivial))
     ·
      replace h := bz hc19 h
      refine bF (t := y17) rfl hc19 ?_
      obtain ⟨r20, hr20, h⟩ := aE h
      have hh := aH h
      subst hh
      refine b7 ⟨tab [(0, .loc 0 0 r20.length), (10, bZ a1), (11, vi (a1.length : Int)), (12, vi i3)], ag [(0, .lst true (some 2) (List.map am r20))], 1⟩ ?_ ?_
      ·
       iterate 6 refine q1 _ ?_
       refine jz (v := .loc 0 0 r20.length) (σ' := (aj (aj (ag [(0, .lst true (some 2) (List.map am l2)), (1, .var [vi x9.At, vb x9.Out, aT x9.Row.Match, .d (eL none (eL (some 2) aI) x9.Row.Acts)])]) 0 none) 0 (some (.lst true (some 2) (List.map am r20))))) (n' := 2) (kX [0] (ul hr20) (show 1 ≤ 1 by decide) (by decide) (show ∀ i ∈ [0], i < 2 by decide) (k9 (show 0 < 1 by decide) la) (ce.c (.lc 0) (ce.c (.d _) (ce.c (.d _) ce.nil0))) (SN.c (show 0 < 1 by decide) rfl (.lst _ _ _) SN.nil0)) (show 2 ≤ 2 by decide) ?_
       refine q1 _ ?_
       exact nR [0]
      exact And.intro rfl rfl
  ·
   intro r' hq
   subst hq
   exact aH h
  rintro l21 rfl
  show az _ _ _ _ _ ⟨tab [(0, .loc 0 0 l21.length), (10, bZ a1), (11, vi (a1.length : Int)), (12, vi i3)], ag [(0, .lst true (some 2) (List.map am l21))], 1⟩
  have hh := aH h
  subst hh
  refine b7 ⟨tab [(0, .loc 0 0 l21.length), (10, bZ a1), (11, vi (a1.length : Int)), (12, vi (i3 + 1))], ag [(0, .lst true (some 2) (List.map am l21))], 1⟩ ?_ ?_
  ·
   refine step (v := vi (i3 + 1)) (dR (dS hinv6 hgo5 hB4) rfl rfl) ?_
   refine q1 _ ?_
   exact nR [0]
  exact And.intro rfl rfl
 ·
  rintro i3 l2 hinv6 hgo5
  show az _ _ _ _ _ ⟨tab [(0, .loc 0 0 l2.length), (10, bZ a1), (11, vi (a1.length : Int)), (12, vi i3)], ag [(0, .lst true (some 2) (List.map am l2))], 1⟩
  have hc7 : ¬ (decide (i3 < (a1.length : Int)) = true) := fun hq => hgo5 (of_decide_eq_true hq)
  refine ax ⟨tab [(0, .loc 0 0 l2.length), (10, bZ a1), (11, vi (a1.length : Int)), (12, vi i3), (13, vb (decide (i3 < (a1.length : Int))))], ag [(0, .lst true (some 2) (List.map am l2))], 1⟩ ?_ ?_
  ·
   refine q1 _ ?_
   exact nR [0]
  refine a9 ?_
  refine bF (t := decide (i3 < (a1.length : Int))) rfl hc7 ?_
  refine az.norm (s0 := ⟨tab [(0, .loc 0 0 l2.length)], ag [(0, .lst true (some 2) (List.map am l2))], 1⟩) (nr [0]) ?_
  refine dG ?_
  exact And.intro rfl rfl
 ·
  intro r' hq
  subst hq
  exact aH h
 rintro z23 rfl
 refine ax ⟨tab [(4, .loc 0 0 z23.length), (5, vb true)], ag [(0, .lst true (some 2) (List.map am z23))], 1⟩ ?_ ?_
 ·
  iterate 3 refine q1 _ ?_
  exact nR [0]
 have hh := aH h
 subst hh
 refine bE ?_
 show FQ _ _ _ _
 exact gR (.inr rfl) (bG (v := .loc 0 0 z23.length) rfl (bG (v := vb true) rfl rfl)) (RV.loc (xs := z23) (e := am) rfl rfl (RV.d trivial))
theorem oZ {a0 : (List al)} {a1 : (List al)} {r : Int} (h : fG a0 a1 = some r) : PCall Try.prog 17 [eL (some 2) am a0, eL (some 2) am a1] (.int .i64 r) := by
 refine PCall.introN tv (show 2 ≤ 20 by decide) ?_
 refine az.norm (s0 := ⟨tab [(0, aC a0), (1, aC a1)], ag [], 0⟩) (nr []) ?_
 refine ax ⟨tab [(0, aC a0), (1, aC a1)], ag [], 0⟩ ?_ ?_
 ·
  refine q1 _ ?_
  exact nR []
 refine a9 ?_
 obtain ⟨r1, hr1, h⟩ := aE h
 refine ax ⟨tab [(0, aC a0), (1, aC a1), (8, vb (!r1))], ag [], 0⟩ ?_ ?_
 ·
  iterate 2 refine q1 _ ?_
  refine cL (r := .bool r1) (bw (bw bh.nil')) (oM hr1) ?_
  refine q1 _ ?_
  exact nR []
 by_cases hc2 : (!r1) = true
 ·
  replace h := bx hc2 h
  refine bI (t := (!r1)) rfl hc2 ?_
  refine ax ⟨tab [(4, vi 0)], ag [], 0⟩ ?_ ?_
  ·
   refine q1 _ ?_
   exact nR []
  have hh := aH h
  subst hh
  refine bE ?_
  show FQ _ _ _ _
  exact cf (.inr rfl) (bG (v := vi 0) rfl rfl) (RV.d trivial)
 ·
  replace h := bz hc2 h
  refine bF (t := (!r1)) rfl hc2 ?_
  refine bN ?_
  obtain ⟨r3, hr3, h⟩ := aE h
  obtain ⟨x4, hx4, h⟩ := aE h
  obtain ⟨x5, hx5, h⟩ := aE h
  refine ax ⟨tab [(4, vi (IntKind.i64.wrap x5))], ag [], 0⟩ ?_ ?_
  ·
   iterate 2 refine q1 _ ?_
   refine cL (r := .cptr (some 3) (eW r3) 0) (bw (bw bh.nil')) (oO hr3) ?_
   iterate 3 refine q1 _ ?_
   refine step (v := .d (.cptr none (eL none (D.int .i16) x4) 0)) (bP (xs := r3.best) (e := (eL none (D.int .i16))) hx4 rfl rfl) ?_
   refine q1 _ ?_
   refine step (v := .d (.cptr none (.int .i16 x5) 0)) (bP (xs := x4) (e := (D.int .i16)) hx5 rfl rfl) ?_
   iterate 3 refine q1 _ ?_
   exact nR []
  have hh := aH h
  subst hh
  refine bE ?_
  show FQ _ _ _ _
  exact cf (.inr rfl) (bG (v := vi (IntKind.i64.wrap x5)) rfl rfl) (RV.d trivial)
theorem um  {r : Bool} (h : j6  = some r) : PCall Try.prog 11 [] (.bool r) := by
 refine PCall.introN tx (show 0 ≤ 81 by decide) ?_
 refine az.norm (s0 := ⟨tab [], ag [], 0⟩) (nr []) ?_
 refine ax ⟨tab [], ag [], 0⟩ ?_ ?_
 ·
  refine q1 _ ?_
  exact nR []
 refine ax ⟨tab [(1, .d (.func 40 []))], ag [], 0⟩ ?_ ?_
 ·
  refine q1 _ ?_
  exact nR []
 obtain ⟨r1, hr1, h⟩ := aE h
 obtain ⟨r2, hr2, h⟩ := aE h
 obtain ⟨r3, hr3, h⟩ := aE h
 obtain ⟨r4, hr4, h⟩ := aE h
 refine ax ⟨tab [(1, .d (.func 40 [])), (2, bZ r4.1), (3, vi r4.2)], ag [], 0⟩ ?_ ?_
 ·
  refine q1 _ ?_
  refine fv (r := am r1) rfl (bw bh.nil') (g7 hr1) ?_
  refine q1 _ ?_
  refine fv (r := am r2) rfl (bw bh.nil') (g7 hr2) ?_
  iterate 2 refine q1 _ ?_
  refine fv (r := am r2) rfl (bw bh.nil') (g7 hr2) ?_
  refine q1 _ ?_
  refine fv (r := am r3) rfl (bw bh.nil') (g7 hr3) ?_
  refine q1 _ ?_
  refine cL (r := .tup [eL (some 4) bm r4.1, .int .i64 r4.2]) (bw (bw bh.nil')) (lO hr4) ?_
  iterate 5 refine q1 _ ?_
  exact nR []
 obtain ⟨r5, hr5, h⟩ := aE h
 refine ax ⟨tab [(2, bZ r4.1), (3, vi r4.2), (4, aC r5.1), (5, vb r5.2)], ag [], 0⟩ ?_ ?_
 ·
  refine q1 _ ?_
  refine fv (r := am r1) rfl (bw bh.nil') (g7 hr1) ?_
  refine q1 _ ?_
  refine fv (r := am r2) rfl (bw bh.nil') (g7 hr2) ?_
  iterate 2 refine q1 _ ?_
  refine cL (r := .tup [eL (some 2) am r5.1, .bool r5.2]) (bw (bw bh.nil')) (oY hr5) ?_
  iterate 5 refine q1 _ ?_
  exact nR []
 obtain ⟨y19, hv, h⟩ := aE h
 refine ax ⟨tab [(0, vb y19)], ag [], 0⟩ ?_ ?_
 ·
  iterate 3 refine q1 _ ?_
  by_cases hg6 : (r4.2 == 0) = true
  ·
   replace hv := bx hg6 hv
   refine qG _ hg6 ?_
   refine q1 _ ?_
   refine step (v := vb r5.2) (cS (b := (r4.2 == 0)) rfl hg6 rfl) ?_
   refine q1 _ ?_
   by_cases hg7 : r5.2 = true
   ·
    replace hv := bx hg7 hv
    refine qG _ hg7 ?_
    refine q1 _ ?_
    refine qG _ hg7 ?_
    refine step (v := vi (r4.1.length : Int)) (bL (xs := r4.1) (e := bm) rfl) ?_
    refine qG _ hg7 ?_
    refine q1 _ ?_
    refine step (v := vb ((r4.1.length : Int) == 2)) (cS (b := r5.2) rfl hg7 rfl) ?_
    refine q1 _ ?_
    by_cases hg8 : ((r4.1.length : Int) == 2) = true
    ·
     replace hv := bx hg8 hv
     obtain ⟨x9, hx9, hv⟩ := aE hv
     refine qG _ hg8 ?_
     refine q1 _ ?_
     refine qG _ hg8 ?_
     refine step (v := .d (.cptr (some 4) (bm x9) 0)) (bP (xs := r4.1) (e := bm) hx9 rfl rfl) ?_
     refine qG _ hg8 ?_
     refine q1 _ ?_
     refine qG _ hg8 ?_
     refine q1 _ ?_
     refine step (v := vb x9.Out) (cS (b := ((r4.1.length : Int) == 2)) rfl hg8 rfl) ?_
     refine q1 _ ?_
     by_cases hg10 : x9.Out = true
     ·
      replace hv := bx hg10 hv
      refine qG _ hg10 ?_
      refine q1 _ ?_
      refine qG _ hg10 ?_
      refine step (v := .d (.cptr (some 4) (bm x9) 0)) (bP (xs := r4.1) (e := bm) hx9 rfl rfl) ?_
      refine qG _ hg10 ?_
      refine q1 _ ?_
      refine qG _ hg10 ?_
      refine q1 _ ?_
      refine qG _ hg10 ?_
      refine q1 _ ?_
      refine step (v := vb (x9.At == 0)) (cS (b := x9.Out) rfl hg10 rfl) ?_
      refine q1 _ ?_
      by_cases hg11 : (x9.At == 0) = true
      ·
       replace hv := bx hg11 hv
       obtain ⟨x12, hx12, hv⟩ := aE hv
       refine qG _ hg11 ?_
       refine q1 _ ?_
       refine qG _ hg11 ?_
       refine step (v := .d (.cptr (some 4) (bm x12) 0)) (bP (xs := r4.1) (e := bm) hx12 rfl rfl) ?_
       refine qG _ hg11 ?_
       refine q1 _ ?_
       refine qG _ hg11 ?_
       refine q1 _ ?_
       refine qG _ hg11 ?_
       refine q1 _ ?_
       refine step (v := vb (x12.At == 1)) (cS (b := (x9.At == 0)) rfl hg11 rfl) ?_
       refine q1 _ ?_
       by_cases hg13 : (x12.At == 1) = true
       ·
        replace hv := bx hg13 hv
        refine qG _ hg13 ?_
        refine q1 _ ?_
        refine qG _ hg13 ?_
        refine step (v := vi (r5.1.length : Int)) (bL (xs := r5.1) (e := am) rfl) ?_
        refine qG _ hg13 ?_
        refine q1 _ ?_
        refine step (v := vb ((r5.1.length : Int) == 2)) (cS (b := (x12.At == 1)) rfl hg13 rfl) ?_
        refine q1 _ ?_
        by_cases hg14 : ((r5.1.length : Int) == 2) = true
        ·
         replace hv := bx hg14 hv
         obtain ⟨x15, hx15, hv⟩ := aE hv
         obtain ⟨x16, hx16, hv⟩ := aE hv
         refine qG _ hg14 ?_
         refine q1 _ ?_
         refine qG _ hg14 ?_
         refine step (v := fi x15) (bP (xs := r5.1) (e := am) hx15 rfl rfl) ?_
         refine qG _ hg14 ?_
         refine q1 _ ?_
         refine qG _ hg14 ?_
         refine q1 _ ?_
         refine qG _ hg14 ?_
         refine step (v := .d (.cptr (some 2) (aI x16) 0)) (bP (xs := x15.Match) (e := aI) hx16 rfl rfl) ?_
         refine qG _ hg14 ?_
         refine q1 _ ?_
         refine qG _ hg14 ?_
         refine q1 _ ?_
         refine qG _ hg14 ?_
         refine q1 _ ?_
         refine step (v := vb (x16.N == 3)) (cS (b := ((r5.1.length : Int) == 2)) rfl hg14 rfl) ?_
         refine q1 _ ?_
         by_cases hg17 : (x16.N == 3) = true
         ·
          replace hv := bx hg17 hv
          obtain ⟨r18, hr18, hv⟩ := aE hv
          refine qG _ hg17 ?_
          refine q1 _ ?_
          refine qG _ hg17 ?_
          refine q1 _ ?_
          refine qG _ hg17 ?_
          refine cL (r := .int .i64 r18) (bw (bw bh.nil')) (oZ hr18) ?_
          refine qG _ hg17 ?_
          refine q1 _ ?_
          refine step (v := vb (r18 == 2)) (cS (b := (x16.N == 3)) rfl hg17 rfl) ?_
          refine q1 _ ?_
          have hh := aH hv
          subst hh
          exact nR []
         ·
          replace hv := bz hg17 hv
          iterate 4 refine qX _ hg17 ?_
          refine step (v := vb false) (ba (b := (x16.N == 3)) rfl hg17 rfl) ?_
          refine q1 _ ?_
          have hh := aH hv
          subst hh
          exact nR []
        ·
         replace hv := bz hg14 hv
         iterate 8 refine qX _ hg14 ?_
         refine step (v := vb false) (ba (b := ((r5.1.length : Int) == 2)) rfl hg14 rfl) ?_
         refine q1 _ ?_
         iterate 4 refine qX false (by decide) ?_
         refine step (v := vb false) (ba (b := false) rfl (by decide) rfl) ?_
         refine q1 _ ?_
         have hh := aH hv
         subst hh
         exact nR []
       ·
        replace hv := bz hg13 hv
        iterate 3 refine qX _ hg13 ?_
        refine step (v := vb false) (ba (b := (x12.At == 1)) rfl hg13 rfl) ?_
        refine q1 _ ?_
        iterate 8 refine qX false (by decide) ?_
        refine step (v := vb false) (ba (b := false) rfl (by decide) rfl) ?_
        refine q1 _ ?_
        iterate 4 refine qX false (by decide) ?_
        refine step (v := vb false) (ba (b := false) rfl (by decide) rfl) ?_
        refine q1 _ ?_
        have hh := aH hv
        subst hh
        exact nR []
      ·
       replace hv := bz hg11 hv
       iterate 5 refine qX _ hg11 ?_
       refine step (v := vb false) (ba (b := (x9.At == 0)) rfl hg11 rfl) ?_
       refine q1 _ ?_
       iterate 3 refine qX false (by decide) ?_
       refine step (v := vb false) (ba (b := false) rfl (by decide) rfl) ?_
       refine q1 _ ?_
       iterate 8 refine qX false (by decide) ?_
       refine step (v := vb false) (ba (b := false) rfl (by decide) rfl) ?_
       refine q1 _ ?_
       iterate 4 refine qX false (by decide) ?_
       refine step (v := vb false) (ba (b := false) rfl (by decide) rfl) ?_
       refine q1 _ ?_
       have hh := aH hv
       subst hh
       exact nR []
     ·
      replace hv := bz hg10 hv
      iterate 5 refine qX _ hg10 ?_
      refine step (v := vb false) (ba (b := x9.Out) rfl hg10 rfl) ?_
      refine q1 _ ?_
      iterate 5 refine qX false (by decide) ?_
      refine step (v := vb false) (ba (b := false) rfl (by decide) rfl) ?_
      refine q1 _ ?_
      iterate 3 refine qX false (by decide) ?_
      refine step (v := vb false) (ba (b := false) rfl (by decide) rfl) ?_
      refine q1 _ ?_
      iterate 8 refine qX false (by decide) ?_
      refine step (v := vb false) (ba (b := false) rfl (by decide) rfl) ?_
      refine q1 _ ?_
      iterate 4 refine qX false (by decide) ?_
      refine step (v := vb false) (ba (b := false) rfl (by decide) rfl) ?_
      refine q1 _ ?_
      have hh := aH hv
      subst hh
      exact nR []
    ·
     replace hv := bz hg8 hv
     iterate 4 refine qX _ hg8 ?_
     refine step (v := vb false) (ba (b := ((r4.1.length : Int) == 2)) rfl hg8 rfl) ?_
     refine q1 _ ?_
     iterate 5 refine qX false (by decide) ?_
     refine step (v := vb false) (ba (b := false) rfl (by decide) rfl) ?_
     refine q1 _ ?_
     iterate 5 refine qX false (by decide) ?_
     refine step (v := vb false) (ba (b := false) rfl (by decide) rfl) ?_
     refine q1 _ ?_
     iterate 3 refine qX false (by decide) ?_
     refine step (v := vb false) (ba (b := false) rfl (by decide) rfl) ?_
     refine q1 _ ?_
     iterate 8 refine qX false (by decide) ?_
     refine step (v := vb false) (ba (b := false) rfl (by decide) rfl) ?_
     refine q1 _ ?_
     iterate 4 refine qX false (by decide) ?_
     refine step (v := vb false) (ba (b := false) rfl (by decide) rfl) ?_
     refine q1 _ ?_
     have hh := aH hv
     subst hh
     exact nR []
   ·
    replace hv := bz hg7 hv
    iterate 3 refine qX _ hg7 ?_
    refine step (v := vb false) (ba (b := r5.2) rfl hg7 rfl) ?_
    refine q1 _ ?_
    iterate 4 refine qX false (by decide) ?_
    refine step (v := vb false) (ba (b := false) rfl (by decide) rfl) ?_
    refine q1 _ ?_
    iterate 5 refine qX false (by decide) ?_
    refine step (v := vb false) (ba (b := false) rfl (by decide) rfl) ?_
    refine q1 _ ?_
    iterate 5 refine qX false (by decide) ?_
    refine step (v := vb false) (ba (b := false) rfl (by decide) rfl) ?_
    refine q1 _ ?_
    iterate 3 refine qX false (by decide) ?_
    refine step (v := vb false) (ba (b := false) rfl (by decide) rfl) ?_
    refine q1 _ ?_
    iterate 8 refine qX false (by decide) ?_
    refine step (v := vb false) (ba (b := false) rfl (by decide) rfl) ?_
    refine q1 _ ?_
    iterate 4 refine qX false (by decide) ?_
    refine step (v := vb false) (ba (b := false) rfl (by decide) rfl) ?_
    refine q1 _ ?_
    have hh := aH hv
    subst hh
    exact nR []
  ·
   replace hv := bz hg6 hv
   refine qX _ hg6 ?_
   refine step (v := vb false) (ba (b := (r4.2 == 0)) rfl hg6 rfl) ?_
   refine q1 _ ?_
   iterate 3 refine qX false (by decide) ?_
   refine step (v := vb false) (ba (b := false) rfl (by decide) rfl) ?_
   refine q1 _ ?_
   iterate 4 refine qX false (by decide) ?_
   refine step (v := vb false) (ba (b := false) rfl (by decide) rfl) ?_
   refine q1 _ ?_
   iterate 5 refine qX false (by decide) ?_
   refine step (v := vb false) (ba (b := false) rfl (by decide) rfl) ?_
   refine q1 _ ?_
   iterate 5 refine qX false (by decide) ?_
   refine step (v := vb false) (ba (b := false) rfl (by decide) rfl) ?_
   refine q1 _ ?_
   iterate 3 refine qX false (by decide) ?_
   refine step (v := vb false) (ba (b := false) rfl (by decide) rfl) ?_
   refine q1 _ ?_
   iterate 8 refine qX false (by decide) ?_
   refine step (v := vb false) (ba (b := false) rfl (by decide) rfl) ?_
   refine q1 _ ?_
   iterate 4 refine qX false (by decide) ?_
   refine step (v := vb false) (ba (b := false) rfl (by decide) rfl) ?_
   refine q1 _ ?_
   have hh := aH hv
   subst hh
   exact nR []
 have hh := aH h
 subst hh
 refine bE ?_
 show FQ _ _ _ _
 exact cf (.inr rfl) (bG (v := vb y19) rfl rfl) (RV.d trivial)
theorem c_law34_UpdateLong {a0 : Int} {r : Bool} (h : law34_UpdateLong a0 = some r) : PCall Try.prog 6 [.int .u8 a0] (.bool r) := by
 refine PCall.introN tA (show 1 ≤ 107 by decide) ?_
 refine az.norm (s0 := ⟨tab [(0, v8 a0)], ag [], 0⟩) (nr []) ?_
 refine ax ⟨tab [(0, v8 a0)], ag [], 0⟩ ?_ ?_
 ·
  refine q1 _ ?_
  exact nR []
 refine a9 ?_
 obtain ⟨r1, hr1, h⟩ := aE h
 refine ax ⟨tab [(0, v8 a0), (13, vb (!r1))], ag [], 0⟩ ?_ ?_
 ·
  refine cL (r := .bool r1) bh.nil' (um hr1) ?_
  refine q1 _ ?_
  exact nR []
 by_cases hc2 : (!r1) = true
 ·
  replace h := bx hc2 h
  refine bI (t := (!r1)) rfl hc2 ?_
  refine ax ⟨tab [(2, vb false)], ag [], 0⟩ ?_ ?_
  ·
   refine q1 _ ?_
   exact nR []
  have hh := aH h
  subst hh
  refine bE ?_
  show FQ _ _ _ _
  exact cf (.inr rfl) (bG (v := vb false) rfl rfl) (RV.d trivial)
 ·
  replace h := bz hc2 h
  refine bF (t := (!r1)) rfl hc2 ?_
  refine bN ?_
  refine ax ⟨tab [(3, vi (IntKind.i64.wrap (990 + ((IntKind.i64.wrap a0).tmod 21))))], ag [], 0⟩ ?_ ?_
  ·
   iterate 5 refine q1 _ ?_
   exact nR []
  obtain ⟨l3, hl3, h⟩ := aE h
  refine ax ⟨tab [(3, vi (IntKind.i64.wrap (990 + ((IntKind.i64.wrap a0).tmod 21)))), (4, .loc 0 0 l3.length)], ag [(0, .lst true (some 2) (List.map am l3))], 1⟩ ?_ ?_
  ·
   refine q1 _ ?_
   refine step (v := .loc 0 0 l3.length) (σ' := (aj (ag []) 0 (some (.lst true (some 2) (List.map am l3))))) (n' := 1) (iG (e := am) (z := (al.mk [] [])) hl3 rfl rfl (gQ hl3)) ?_
   refine q1 _ ?_
   exact nR [0]
  refine a9 ?_
  refine ax ⟨tab [(3, vi (IntKind.i64.wrap (990 + ((IntKind.i64.wrap a0).tmod 21)))), (4, .loc 0 0 l3.length), (21, vi (l3.length : Int)), (22, vi 0)], ag [(0, .lst true (some 2) (List.map am l3))], 1⟩ ?_ ?_
  ·
   iterate 3 refine q1 _ ?_
   exact nR [0]
  obtain ⟨z13, hl, h⟩ := aE h
  refine cd ?_
  refine gN (eA (l3.length : Int)) (fun (i5 : Int) (qq : (List al)) => ⟨tab [(3, vi (IntKind.i64.wrap (990 + ((IntKind.i64.wrap a0).tmod 21)))), (4, .loc 0 0 qq.length), (21, vi (l3.length : Int)), (22, vi i5)], ag [(0, .lst true (some 2) (List.map am qq))], 1⟩) 0 (fun (qq : (List al)) => ⟨tab [(3, vi (IntKind.i64.wrap (990 + ((IntKind.i64.wrap a0).tmod 21)))), (4, .loc 0 0 qq.length)], ag [(0, .lst true (some 2) (List.map am qq))], 1⟩) b8 eB hl (by unfold b8; omega) ?_ ?_ ?_
  ·
   rintro i5 l4 xr10 hinv8 hgo7 h
   show az _ _ _ _ _ ⟨tab [(3, vi (IntKind.i64.wrap (990 + ((IntKind.i64.wrap a0).tmod 21)))), (4, .loc 0 0 l4.length), (21, vi (l3.length : Int)), (22, vi i5)], ag [(0, .lst true (some 2) (List.map am l4))], 1⟩
   have hc9 : decide (i5 < (l3.length : Int)) = true := decide_eq_true hgo7
   refine ax ⟨tab [(3, vi (IntKind.i64.wrap (990 + ((IntKind.i64.wrap a0).tmod 21)))), (4, .loc 0 0 l4.length), (21, vi (l3.length : Int)), (22, vi i5), (23, vb (decide (i5 < (l3.length : Int))))], ag [(0, .lst true (some 2) (List.map am l4))], 1⟩ ?_ ?_
   ·
    refine q1 _ ?_
    exact nR [0]
   refine dI 21 rfl fun hB6 => ?_
   refine a9 ?_
   refine bI (t := decide (i5 < (l3.length : Int))) rfl hc9 ?_
   refine bN ?_
   refine a9 ?_
   refine cd ?_
   refine ax ⟨tab [(3, vi (IntKind.i64.wrap (990 + ((IntKind.i64.wrap a0).tmod 21)))), (4, .loc 0 0 l4.length), (5, vi i5), (21, vi (l3.length : Int)), (22, vi i5)], ag [(0, .lst true (some 2) (List.map am l4))], 1⟩ ?_ ?_
   ·
    iterate 2 refine q1 _ ?_
    exact nR [0]
   obtain ⟨x11, hx11, h⟩ := aE h
   obtain ⟨l12, hl12, h⟩ := aE h
   refine b7 ⟨tab [(3, vi (IntKind.i64.wrap (990 + ((IntKind.i64.wrap a0).tmod 21)))), (4, .loc 0 0 l12.length), (21, vi (l3.length : Int)), (22, vi i5)], ag [(0, .lst true (some 2) (List.map am l12))], 1⟩ ?_ ?_
   ·
    iterate 4 refine q1 _ ?_
    refine step (v := .d (aI (br.mk 3 (IntKind.u16.wrap i5)))) (iH (ds := [.int .i64 3, .int .u16 (IntKind.u16.wrap i5)]) rfl) ?_
    refine q1 _ ?_
    refine step (v := .ptr 0 i5.toNat 0) (eT (xs := l4) (e := am) hx11 rfl rfl rfl rfl) ?_
    refine q1 _ ?_
    refine step (v := V.undef) (σ' := (aj (ag [(0, .lst true (some 2) (List.map am l4))]) 0 (some (.lst true (some 2) (List.map am l12))))) (n' := 1) (q8 (e := am) hx11 hl12 rfl rfl rfl rfl) ?_
    exact aV.nil' (nm [0] ⟨.d _, .le (id := 0) (fX hl12).symm (show 0 < 1 by decide), .d _, .d _, trivial⟩ ⟨⟨show 0 < 1 by decide, _, rfl, .lst _ _ _⟩, trivial⟩)
   have hh := aH h
   subst hh
   refine b7 ⟨tab [(3, vi (IntKind.i64.wrap (990 + ((IntKind.i64.wrap a0).tmod 21)))), (4, .loc 0 0 l12.length), (21, vi (l3.length : Int)), (22, vi (i5 + 1))], ag [(0, .lst true (some 2) (List.map am l12))], 1⟩ ?_ ?_
   ·
    refine step (v := vi (i5 + 1)) (dR (dS hinv8 hgo7 hB6) rfl rfl) ?_
    refine q1 _ ?_
    exact nR [0]
   exact And.intro rfl rfl
  ·
   rintro i5 l4 hinv8 hgo7
   show az _ _ _ _ _ ⟨tab [(3, vi (IntKind.i64.wrap (990 + ((IntKind.i64.wrap a0).tmod 21)))), (4, .loc 0 0 l4.length), (21, vi (l3.length : Int)), (22, vi i5)], ag [(0, .lst true (some 2) (List.map am l4))], 1⟩
   have hc9 : ¬ (decide (i5 < (l3.length : Int)) = true) := fun hq => hgo7 (of_decide_eq_true hq)
   refine ax ⟨tab [(3, vi (IntKind.i64.wrap (990 + ((IntKind.i64.wrap a0).tmod 21)))), (4, .loc 0 0 l4.length), (21, vi (l3.length : Int)), (22, vi i5), (23, vb (decide (i5 < (l3.length : Int))))], ag [(0, .lst true (some 2) (List.map am l4))], 1⟩ ?_ ?_
   ·
    refine q1 _ ?_
    exact nR [0]
   refine a9 ?_
   refine bF (t := decide (i5 < (l3.length : Int))) rfl hc9 ?_
   refine az.norm (s0 := ⟨tab [(3, vi (IntKind.i64.wrap (990 + ((IntKind.i64.wrap a0).tmod 21)))), (4, .loc 0 0 l4.length)], ag [(0, .lst true (some 2) (List.map am l4))], 1⟩) (nr [0]) ?_
   refine dG ?_
   exact And.intro rfl rfl
  refine az.norm (s0 := ⟨tab [(3, vi (IntKind.i64.wrap (990 + ((IntKind.i64.wrap a0).tmod 21)))), (4, aC z13)], ag [], 0⟩) (a8.trans (s2 := ⟨tab [(3, vi (IntKind.i64.wrap (990 + ((IntKind.i64.wrap a0).tmod 21)))), (4, aC z13)], ag [], 0⟩) (nW [4] (id := 0) (m := true) (k := (some 2)) (xs := z13) (e := am) rfl (fun t ht => by cases ht with | head => exact ⟨_, rfl, rfl⟩ | tail _ h => cases h)) (nr [])) ?_
  obtain ⟨r14, hr14, h⟩ := aE h
  refine ax ⟨tab [(3, vi (IntKind.i64.wrap (990 + ((IntKind.i64.wrap a0).tmod 21)))), (4, aC z13), (6, bZ r14.1), (7, vi r14.2)], ag [], 0⟩ ?_ ?_
  ·
   refine q1 _ ?_
   refine cL (r := .tup [eL (some 4) bm r14.1, .int .i64 r14.2]) (bw (bh.nl bh.nil')) (lO hr14) ?_
   iterate 5 refine q1 _ ?_
   exact nR []
  obtain ⟨r15, hr15, h⟩ := aE h
  refine ax ⟨tab [(3, vi (IntKind.i64.wrap (990 + ((IntKind.i64.wrap a0).tmod 21)))), (4, aC z13), (6, bZ r14.1), (7, vi r14.2), (8, bZ r15.1), (9, vi r15.2)], ag [], 0⟩ ?_ ?_
  ·
   refine q1 _ ?_
   refine cL (r := .tup [eL (some 4) bm r15.1, .int .i64 r15.2]) (bh.nl (bw bh.nil')) (lO hr15) ?_
   iterate 5 refine q1 _ ?_
   exact nR []
  refine a9 ?_
  refine ax ⟨tab [(3, vi (IntKind.i64.wrap (990 + ((IntKind.i64.wrap a0).tmod 21)))), (4, aC z13), (6, bZ r14.1), (7, vi r14.2), (8, bZ r15.1), (9, vi r15.2), (45, vb (decide ((IntKind.i64.wrap (990 + ((IntKind.i64.wrap a0).tmod 21))) > 1000)))], ag [], 0⟩ ?_ ?_
  ·
   iterate 2 refine q1 _ ?_
   exact nR []
  by_cases hc16 : decide ((IntKind.i64.wrap (990 + ((IntKind.i64.wrap a0).tmod 21))) > 1000) = true
  ·
   replace h := bx hc16 h
   refine bI (t := decide ((IntKind.i64.wrap (990 + ((IntKind.i64.wrap a0).tmod 21))) > 1000)) rfl hc16 ?_
   obtain ⟨y20, hv, h⟩ := aE h
   refine ax ⟨tab [(2, vb y20)], ag [], 0⟩ ?_ ?_
   ·
    iterate 3 refine q1 _ ?_
    by_cases hg17 : (r14.2 == 2) = true
    ·
     replace hv := bx hg17 hv
     refine qG _ hg17 ?_
     refine q1 _ ?_
     refine qG _ hg17 ?_
     refine q1 _ ?_
     refine step (v := vb (r15.2 == 2)) (cS (b := (r14.2 == 2)) rfl hg17 rfl) ?_
     refine q1 _ ?_
     by_cases hg18 : (r15.2 == 2) = true
     ·
      replace hv := bx hg18 hv
      obtain ⟨r19, hr19, hv⟩ := aE hv
      refine qG _ hg18 ?_
      refine q1 _ ?_
      refine qG _ hg18 ?_
      refine step (v := vi (r14.1.length : Int)) (bL (xs := r14.1) (e := bm) rfl) ?_
      refine qG _ hg18 ?_
      refine q1 _ ?_
      refine qG _ hg18 ?_
      refine step (v := vi (r15.1.length : Int)) (bL (xs := r15.1) (e := bm) rfl) ?_
      refine qG _ hg18 ?_
      refine q1 _ ?_
      refine qG _ hg18 ?_
      refine q1 _ ?_
      refine qG _ hg18 ?_
      refine q1 _ ?_
      refine qG _ hg18 ?_
      refine cL (r := .int .i64 r19) (bw (bw bh.nil')) (oZ hr19) ?_
      refine qG _ hg18 ?_
      refine q1 _ ?_
      refine qG _ hg18 ?_
      refine q1 _ ?_
      refine step (v := vb ((IntKind.i64.wrap ((IntKind.i64.wrap ((r14.1.length : Int) + (r15.1.length : Int))) + r19)) == 0)) (cS (b := (r15.2 == 2)) rfl hg18 rfl) ?_
      refine q1 _ ?_
      have hh := aH hv
      subst hh
      exact nR []
     ·
      replace hv := bz hg18 hv
      iterate 10 refine qX _ hg18 ?_
      refine step (v := vb false) (ba (b := (r15.2 == 2)) rfl hg18 rfl) ?_
      refine q1 _ ?_
      have hh := aH hv
      subst hh
      exact nR []
    ·
     replace hv := bz hg17 hv
     iterate 2 refine qX _ hg17 ?_
     refine step (v := vb false) (ba (b := (r14.2 == 2)) rfl hg17 rfl) ?_
     refine q1 _ ?_
     iterate 10 refine qX false (by decide) ?_
     refine step (v := vb false) (ba (b := false) rfl (by decide) rfl) ?_
     refine q1 _ ?_
     have hh := aH hv
     subst hh
     exact nR []
   have hh := aH h
   subst hh
   refine bE ?_
   show FQ _ _ _ _
   exact cf (.inr rfl) (bG (v := vb y20) rfl rfl) (RV.d trivial)
  ·
   replace h := bz hc16 h
   refine bF (t := decide ((IntKind.i64.wrap (990 + ((IntKind.i64.wrap a0).tmod 21))) > 1000)) rfl hc16 ?_
   refine bN ?_
   obtain ⟨r22, hr22, h⟩ := aE h
   refine ax ⟨tab [(3, vi (IntKind.i64.wrap (990 + ((IntKind.i64.wrap a0).tmod 21)))), (6, bZ r14.1), (7, vi r14.2), (8, bZ r15.1), (9, vi r15.2), (10, aC r22.1), (11, vb r22.2)], ag [], 0⟩ ?_ ?_
   ·
    iterate 2 refine q1 _ ?_
    refine cL (r := .tup [eL (some 2) am r22.1, .bool r22.2]) (bw (bw bh.nil')) (oY hr22) ?_
    iterate 5 refine q1 _ ?_
    exact nR []
   obtain ⟨y30, hv, h⟩ := aE h
   refine ax ⟨tab [(2, vb y30)], ag [], 0⟩ ?_ ?_
   ·
    iterate 3 refine q1 _ ?_
    by_cases hg23 : (r14.2 == 0) = true
    ·
     replace hv := bx hg23 hv
     refine qG _ hg23 ?_
     refine q1 _ ?_
     refine qG _ hg23 ?_
     refine q1 _ ?_
     refine step (v := vb (r15.2 == 0)) (cS (b := (r14.2 == 0)) rfl hg23 rfl) ?_
     refine q1 _ ?_
     by_cases hg24 : (r15.2 == 0) = true
     ·
      replace hv := bx hg24 hv
      refine qG _ hg24 ?_
      refine q1 _ ?_
      refine qG _ hg24 ?_
      refine step (v := vi (r14.1.length : Int)) (bL (xs := r14.1) (e := bm) rfl) ?_
      refine qG _ hg24 ?_
      refine q1 _ ?_
      refine qG _ hg24 ?_
      refine q1 _ ?_
      refine step (v := vb ((r14.1.length : Int) == (IntKind.i64.wrap (990 + ((IntKind.i64.wrap a0).tmod 21))))) (cS (b := (r15.2 == 0)) rfl hg24 rfl) ?_
      refine q1 _ ?_
      by_cases hg25 : ((r14.1.length : Int) == (IntKind.i64.wrap (990 + ((IntKind.i64.wrap a0).tmod 21)))) = true
      ·
       replace hv := bx hg25 hv
       refine qG _ hg25 ?_
       refine q1 _ ?_
       refine qG _ hg25 ?_
       refine step (v := vi (r15.1.length : Int)) (bL (xs := r15.1) (e := bm) rfl) ?_
       refine qG _ hg25 ?_
       refine q1 _ ?_
       refine qG _ hg25 ?_
       refine q1 _ ?_
       refine step (v := vb ((r15.1.length : Int) == (IntKind.i64.wrap (990 + ((IntKind.i64.wrap a0).tmod 21))))) (cS (b := ((r14.1.length : Int) == (IntKind.i64.wrap (990 + ((IntKind.i64.wrap a0).tmod 21))))) rfl hg25 rfl) ?_
       refine q1 _ ?_
       by_cases hg26 : ((r15.1.length : Int) == (IntKind.i64.wrap (990 + ((IntKind.i64.wrap a0).tmod 21)))) = true
       ·
        replace hv := bx hg26 hv
        refine qG _ hg26 ?_
        refine q1 _ ?_
        refine step (v := vb r22.2) (cS (b := ((r15.1.length : Int) == (IntKind.i64.wrap (990 + ((IntKind.i64.wrap a0).tmod 21))))) rfl hg26 rfl) ?_
        refine q1 _ ?_
        by_cases hg27 : r22.2 = true
        ·
         replace hv := bx hg27 hv
         refine qG _ hg27 ?_
         refine q1 _ ?_
         refine qG _ hg27 ?_
         refine step (v := vi (r22.1.length : Int)) (bL (xs := r22.1) (e := am) rfl) ?_
         refine qG _ hg27 ?_
         refine q1 _ ?_
         refine step (v := vb ((r22.1.length : Int) == 0)) (cS (b := r22.2) rfl hg27 rfl) ?_
         refine q1 _ ?_
         by_cases hg28 : ((r22.1.length : Int) == 0) = true
         ·
          replace hv := bx hg28 hv
          obtain ⟨x29, hx29, hv⟩ := aE hv
          refine qG _ hg28 ?_
          refine q1 _ ?_
          refine qG _ hg28 ?_
          refine q1 _ ?_
          refine qG _ hg28 ?_
          refine q1 _ ?_
          refine qG _ hg28 ?_
          refine step (v := .d (.cptr (some 4) (bm x29) 0)) (bP (xs := r15.1) (e := bm) hx29 rfl rfl) ?_
          refine qG _ hg28 ?_
          refine q1 _ ?_
          refine qG _ hg28 ?_
          refine q1 _ ?_
          refine qG _ hg28 ?_
          refine q1 _ ?_
          refine qG _ hg28 ?_
          refine q1 _ ?_
          refine qG _ hg28 ?_
          refine q1 _ ?_
          refine step (v := vb (x29.At == (IntKind.i64.wrap ((IntKind.i64.wrap (990 + ((IntKind.i64.wrap a0).tmod 21))) - 1)))) (cS (b := ((r22.1.length : Int) == 0)) rfl hg28 rfl) ?_
          refine q1 _ ?_
          have hh := aH hv
          subst hh
          exact nR []
         ·
          replace hv := bz hg28 hv
          iterate 9 refine qX _ hg28 ?_
          refine step (v := vb false) (ba (b := ((r22.1.length : Int) == 0)) rfl hg28 rfl) ?_
          refine q1 _ ?_
          have hh := aH hv
          subst hh
          exact nR []
        ·
         replace hv := bz hg27 hv
         iterate 3 refine qX _ hg27 ?_
         refine step (v := vb false) (ba (b := r22.2) rfl hg27 rfl) ?_
         refine q1 _ ?_
         iterate 9 refine qX false (by decide) ?_
         refine step (v := vb false) (ba (b := false) rfl (by decide) rfl) ?_
         refine q1 _ ?_
         have hh := aH hv
         subst hh
         exact nR []
       ·
        replace hv := bz hg26 hv
        refine qX _ hg26 ?_
        refine step (v := vb false) (ba (b := ((r15.1.length : Int) == (IntKind.i64.wrap (990 + ((IntKind.i64.wrap a0).tmod 21))))) rfl hg26 rfl) ?_
        refine q1 _ ?_
        iterate 3 refine qX false (by decide) ?_
        refine step (v := vb false) (ba (b := false) rfl (by decide) rfl) ?_
        refine q1 _ ?_
        iterate 9 refine qX false (by decide) ?_
        refine step (v := vb false) (ba (b := false) rfl (by decide) rfl) ?_
        refine q1 _ ?_
        have hh := aH hv
        subst hh
        exact nR []
      ·
       replace hv := bz hg25 hv
       iterate 4 refine qX _ hg25 ?_
       refine step (v := vb false) (ba (b := ((r14.1.length : Int) == (IntKind.i64.wrap (990 + ((IntKind.i64.wrap a0).tmod 21))))) rfl hg25 rfl) ?_
       refine q1 _ ?_
       refine qX false (by decide) ?_
       refine step (v := vb false) (ba (b := false) rfl (by decide) rfl) ?_
       refine q1 _ ?_
       iterate 3 refine qX false (by decide) ?_
       refine step (v := vb false) (ba (b := false) rfl (by decide) rfl) ?_
       refine q1 _ ?_
       iterate 9 refine qX false (by decide) ?_
       refine step (v := vb false) (ba (b := false) rfl (by decide) rfl) ?_
       refine q1 _ ?_
       have hh := aH hv
       subst hh
       exact nR []
     ·
      replace hv := bz hg24 hv
      iterate 4 refine qX _ hg24 ?_
      refine step (v := vb false) (ba (b := (r15.2 == 0)) rfl hg24 rfl) ?_
      refine q1 _ ?_
      iterate 4 refine qX false (by decide) ?_
      refine step (v := vb false) (ba (b := false) rfl (by decide) rfl) ?_
      refine q1 _ ?_
      refine qX false (by decide) ?_
      refine step (v := vb false) (ba (b := false) rfl (by decide) rfl) ?_
      refine q1 _ ?_
      iterate 3 refine qX false (by decide) ?_
      refine step (v := vb false) (ba (b := false) rfl (by decide) rfl) ?_
      refine q1 _ ?_
      iterate 9 refine qX false (by decide) ?_
      refine step (v := vb false) (ba (b := false) rfl (by decide) rfl) ?_
      refine q1 _ ?_
      have hh := aH hv
      subst hh
      exact nR []
    ·
     replace hv := bz hg23 hv
     iterate 2 refine qX _ hg23 ?_
     refine step (v := vb false) (ba (b := (r14.2 == 0)) rfl hg23 rfl) ?_
     refine q1 _ ?_
     iterate 4 refine qX false (by decide) ?_
     refine step (v := vb false) (ba (b := false) rfl (by decide) rfl) ?_
     refine q1 _ ?_
     iterate 4 refine qX false (by decide) ?_
     refine step (v := vb false) (ba (b := false) rfl (by decide) rfl) ?_
     refine q1 _ ?_
     refine qX false (by decide) ?_
     refine step (v := vb false) (ba (b := false) rfl (by decide) rfl) ?_
     refine q1 _ ?_
     iterate 3 refine qX false (by decide) ?_
     refine step (v := vb false) (ba (b := false) rfl (by decide) rfl) ?_
     refine q1 _ ?_
     iterate 9 refine qX false (by decide) ?_
     refine step (v := vb false) (ba (b := false) rfl (by decide) rfl) ?_
     refine q1 _ ?_
     have hh := aH hv
     subst hh
     exact nR []
   have hh := aH h
   subst hh
   refine bE ?_
   show FQ _ _ _ _
   exact cf (.inr rfl) (bG (v := vb y30) rfl rfl) (RV.d trivial)
end Go.AM
