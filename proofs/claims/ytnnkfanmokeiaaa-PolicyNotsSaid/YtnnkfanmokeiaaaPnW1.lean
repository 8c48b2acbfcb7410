import Derived.Test.YtnnkfanmokeiaaaPnE
set_option linter.unusedVariables false
set_option linter.unusedSimpArgs false
namespace Go.AM
open Go Go.RowKit Go.Proofs
attribute [local irreducible] aU ca
set_option maxHeartbeats 2000000
theorem ka {a0 : (List aj)} {r : aj} (h : gU a0 = some r) : PCall Try.prog 20 [eL (some 4) aC a0] (bo r) := by
 refine PCall.introN ti (show 1 ≤ 5 by decide) ?_
 refine aX (s0 := ⟨tab [(0, aE a0)], ac [], 0⟩) (nr []) ?_
 refine ak ⟨tab [(0, aE a0), (2, .ptr 0 0 0)], ac [(0, bk)], 1⟩ ?_ ?_
 ·
  refine step (v := .ptr 0 0 0) (σ' := (al (ac []) 0 (some (bk)))) (n' := 1) rfl ?_
  exact nR [0]
 refine ak ⟨tab [(2, .ptr 0 0 0)], ac [(0, .var [vi 7, vi 0, vh 0, aE a0])], 1⟩ ?_ ?_
 ·
  refine q1 _ ?_
  refine step (v := vs1 (aj.mk 7 0 0 a0)) (dj (ds := [.int .i64 7, .int .i64 0, .int .u16 0, eL (some 4) aC a0]) rfl) ?_
  refine step (v := V.undef) (σ' := (al (ac [(0, bk)]) 0 (some (.var [vi 7, vi 0, vh 0, aE a0])))) (n' := 1) rfl ?_
  exact nR [0]
 have hh := ap h
 subst hh
 refine aV ?_
 show FQ _ _ _ _
 exact bh (.inr rfl) (gl (ds := [.int .i64 7, .int .i64 0, .int .u16 0, eL (some 4) aC a0]) rfl rfl (show 4 ≤ 4 by decide) rfl rfl) (RV.d trivial)
theorem gy {a0 : (List aj)} {r : aj} (h : fF a0 = some r) : PCall Try.prog 21 [eL (some 4) aC a0] (bo r) := by
 refine PCall.introN tk (show 1 ≤ 5 by decide) ?_
 refine aX (s0 := ⟨tab [(0, aE a0)], ac [], 0⟩) (nr []) ?_
 refine ak ⟨tab [(0, aE a0), (2, .ptr 0 0 0)], ac [(0, bk)], 1⟩ ?_ ?_
 ·
  refine step (v := .ptr 0 0 0) (σ' := (al (ac []) 0 (some (bk)))) (n' := 1) rfl ?_
  exact nR [0]
 refine ak ⟨tab [(2, .ptr 0 0 0)], ac [(0, .var [vi 6, vi 0, vh 0, aE a0])], 1⟩ ?_ ?_
 ·
  refine q1 _ ?_
  refine step (v := vs1 (aj.mk 6 0 0 a0)) (dj (ds := [.int .i64 6, .int .i64 0, .int .u16 0, eL (some 4) aC a0]) rfl) ?_
  refine step (v := V.undef) (σ' := (al (ac [(0, bk)]) 0 (some (.var [vi 6, vi 0, vh 0, aE a0])))) (n' := 1) rfl ?_
  exact nR [0]
 have hh := ap h
 subst hh
 refine aV ?_
 show FQ _ _ _ _
 exact bh (.inr rfl) (gl (ds := [.int .i64 6, .int .i64 0, .int .u16 0, eL (some 4) aC a0]) rfl rfl (show 4 ≤ 4 by decide) rfl rfl) (RV.d trivial)
theorem vo {self : aj → Option Int} (hself : ∀ (a0 : aj) (r : Int), self a0 = some r → PCall Try.prog 62 [bo a0] (.int .i64 r)) {a0 : aj} {r : Int} (h : iP self a0 = some r) : PCall Try.prog 62 [bo a0] (.int .i64 r) := by
 refine PCall.introN tp (show 1 ≤ 19 by decide) ?_
 refine aX (s0 := ⟨tab [(0, vs1 a0)], ac [], 0⟩) (nr []) ?_
 refine ak ⟨tab [(1, aI a0)], ac [], 0⟩ ?_ ?_
 ·
  iterate 2 refine q1 _ ?_
  exact nR []
 refine ak ⟨tab [(1, aI a0), (3, vi 1)], ac [], 0⟩ ?_ ?_
 ·
  refine q1 _ ?_
  exact nR []
 refine aN ?_
 refine ak ⟨tab [(3, vi 1), (7, aE a0.Kids), (8, vi (a0.Kids.length : Int)), (9, vi 0)], ac [], 0⟩ ?_ ?_
 ·
  iterate 2 refine q1 _ ?_
  refine step (v := vi (a0.Kids.length : Int)) (bI (xs := a0.Kids) (e := aC) rfl) ?_
  refine q1 _ ?_
  exact nR []
 obtain ⟨z10, hl, h⟩ := aq h
 refine bE ?_
 refine ft (cK (a0.Kids.length : Int)) (fun (i2 : Int) (qq : Int) => ⟨tab [(3, vi qq), (7, aE a0.Kids), (8, vi (a0.Kids.length : Int)), (9, vi i2)], ac [], 0⟩) 0 (fun (qq : Int) => ⟨tab [(3, vi qq)], ac [], 0⟩) bJ cL hl (by unfold bJ; omega) ?_ ?_ ?_
 ·
  rintro i2 i1 xr7 hinv5 hgo4 h
  show aP _ _ _ _ _ ⟨tab [(3, vi i1), (7, aE a0.Kids), (8, vi (a0.Kids.length : Int)), (9, vi i2)], ac [], 0⟩
  have hc6 : decide (i2 < (a0.Kids.length : Int)) = true := decide_eq_true hgo4
  refine ak ⟨tab [(3, vi i1), (7, aE a0.Kids), (8, vi (a0.Kids.length : Int)), (9, vi i2), (10, vb (decide (i2 < (a0.Kids.length : Int))))], ac [], 0⟩ ?_ ?_
  ·
   refine q1 _ ?_
   exact nR []
  refine cJ 8 rfl fun hB3 => ?_
  refine aN ?_
  refine aT (t := decide (i2 < (a0.Kids.length : Int))) rfl hc6 ?_
  refine bm ?_
  refine aN ?_
  refine bE ?_
  obtain ⟨x8, hx8, h⟩ := aq h
  refine ak ⟨tab [(3, vi i1), (5, .ptr 0 0 0), (7, aE a0.Kids), (8, vi (a0.Kids.length : Int)), (9, vi i2)], ac [(0, bY x8)], 1⟩ ?_ ?_
  ·
   refine step (v := aI x8) (dq (xs := a0.Kids) (e := aC) hx8 rfl rfl (bP _)) ?_
   refine q1 _ ?_
   refine step (v := .ptr 0 0 0) (σ' := (al (ac []) 0 (some (bk)))) (n' := 1) rfl ?_
   refine step (v := V.undef) (σ' := (al (al (ac []) 0 (some (bk))) 0 (some (bY x8)))) (n' := 1) rfl ?_
   exact nR [0]
  obtain ⟨r9, hr9, h⟩ := aq h
  refine bN ⟨tab [(3, vi (IntKind.i64.wrap (i1 + r9))), (7, aE a0.Kids), (8, vi (a0.Kids.length : Int)), (9, vi i2)], ac [], 0⟩ ?_ ?_
  ·
   refine q1 _ ?_
   refine step (v := vs1 x8) (bS (ds := [.int .i64 x8.Op, .int .i64 x8.F, .int .u16 x8.N, eL (some 4) aC x8.Kids]) rfl rfl (show 4 ≤ 4 by decide) rfl) ?_
   refine a9 (r := .int .i64 r9) (aF aL.nil') (hself _ _ hr9) ?_
   iterate 2 refine q1 _ ?_
   exact nR []
  have hh := ap h
  subst hh
  refine bN ⟨tab [(3, vi (IntKind.i64.wrap (i1 + r9))), (7, aE a0.Kids), (8, vi (a0.Kids.length : Int)), (9, vi (i2 + 1))], ac [], 0⟩ ?_ ?_
  ·
   refine step (v := vi (i2 + 1)) (cM (cN hinv5 hgo4 hB3) rfl rfl) ?_
   refine q1 _ ?_
   exact nR []
  exact And.intro rfl rfl
 ·
  rintro i2 i1 hinv5 hgo4
  show aP _ _ _ _ _ ⟨tab [(3, vi i1), (7, aE a0.Kids), (8, vi (a0.Kids.length : Int)), (9, vi i2)], ac [], 0⟩
  have hc6 : ¬ (decide (i2 < (a0.Kids.length : Int)) = true) := fun hq => hgo4 (of_decide_eq_true hq)
  refine ak ⟨tab [(3, vi i1), (7, aE a0.Kids), (8, vi (a0.Kids.length : Int)), (9, vi i2), (10, vb (decide (i2 < (a0.Kids.length : Int))))], ac [], 0⟩ ?_ ?_
  ·
   refine q1 _ ?_
   exact nR []
  refine aN ?_
  refine aS (t := decide (i2 < (a0.Kids.length : Int))) rfl hc6 ?_
  refine aX (s0 := ⟨tab [(3, vi i1)], ac [], 0⟩) (nr []) ?_
  refine cz ?_
  exact And.intro rfl rfl
 refine ak ⟨tab [(2, vi z10)], ac [], 0⟩ ?_ ?_
 ·
  iterate 2 refine q1 _ ?_
  exact nR []
 have hh := ap h
 subst hh
 refine aV ?_
 show FQ _ _ _ _
 exact bh (.inr rfl) (bn (v := vi z10) rfl rfl) (RV.d trivial)
theorem pi : ∀ (k : Nat) (a0 : aj) (r : Int), fG k a0 = some r → PCall Try.prog 62 [bo a0] (.int .i64 r)
 | 0, _, _, h => by cases h
 | k + 1, _, _, h => vo (pi k) h
theorem vp {a0 : aj} {r : Int} (h : ls a0 = some r) : PCall Try.prog 62 [bo a0] (.int .i64 r) := pi cm _ _ h
theorem vq {self : aj → Option Int} (hself : ∀ (a0 : aj) (r : Int), self a0 = some r → PCall Try.prog 63 [bo a0] (.int .i64 r)) {a0 : aj} {r : Int} (h : iQ self a0 = some r) : PCall Try.prog 63 [bo a0] (.int .i64 r) := by
 refine PCall.introN tu (show 1 ≤ 20 by decide) ?_
 refine aX (s0 := ⟨tab [(0, vs1 a0)], ac [], 0⟩) (nr []) ?_
 refine ak ⟨tab [(1, aI a0)], ac [], 0⟩ ?_ ?_
 ·
  iterate 2 refine q1 _ ?_
  exact nR []
 refine ak ⟨tab [(1, aI a0), (3, vi 0)], ac [], 0⟩ ?_ ?_
 ·
  refine q1 _ ?_
  exact nR []
 refine aN ?_
 refine ak ⟨tab [(3, vi 0), (7, aE a0.Kids), (8, vi (a0.Kids.length : Int)), (9, vi 0)], ac [], 0⟩ ?_ ?_
 ·
  iterate 2 refine q1 _ ?_
  refine step (v := vi (a0.Kids.length : Int)) (bI (xs := a0.Kids) (e := aC) rfl) ?_
  refine q1 _ ?_
  exact nR []
 obtain ⟨z10, hl, h⟩ := aq h
 refine bE ?_
 refine ft (cK (a0.Kids.length : Int)) (fun (i2 : Int) (qq : Int) => ⟨tab [(3, vi qq), (7, aE a0.Kids), (8, vi (a0.Kids.length : Int)), (9, vi i2)], ac [], 0⟩) 0 (fun (qq : Int) => ⟨tab [(3, vi qq)], ac [], 0⟩) bJ cL hl (by unfold bJ; omega) ?_ ?_ ?_
 ·
  rintro i2 i1 xr7 hinv5 hgo4 h
  show aP _ _ _ _ _ ⟨tab [(3, vi i1), (7, aE a0.Kids), (8, vi (a0.Kids.length : Int)), (9, vi i2)], ac [], 0⟩
  have hc6 : decide (i2 < (a0.Kids.length : Int)) = true := decide_eq_true hgo4
  refine ak ⟨tab [(3, vi i1), (7, aE a0.Kids), (8, vi (a0.Kids.length : Int)), (9, vi i2), (10, vb (decide (i2 < (a0.Kids.length : Int))))], ac [], 0⟩ ?_ ?_
  ·
   refine q1 _ ?_
   exact nR []
  refine cJ 8 rfl fun hB3 => ?_
  refine aN ?_
  refine aT (t := decide (i2 < (a0.Kids.length : Int))) rfl hc6 ?_
  refine bm ?_
  refine aN ?_
  refine bE ?_
  obtain ⟨x8, hx8, h⟩ := aq h
  refine ak ⟨tab [(3, vi i1), (5, .ptr 0 0 0), (7, aE a0.Kids), (8, vi (a0.Kids.length : Int)), (9, vi i2)], ac [(0, bY x8)], 1⟩ ?_ ?_
  ·
   refine step (v := aI x8) (dq (xs := a0.Kids) (e := aC) hx8 rfl rfl (bP _)) ?_
   refine q1 _ ?_
   refine step (v := .ptr 0 0 0) (σ' := (al (ac []) 0 (some (bk)))) (n' := 1) rfl ?_
   refine step (v := V.undef) (σ' := (al (al (ac []) 0 (some (bk))) 0 (some (bY x8)))) (n' := 1) rfl ?_
   exact nR [0]
  obtain ⟨r9, hr9, h⟩ := aq h
  refine bN ⟨tab [(3, vi (gf i1 r9)), (7, aE a0.Kids), (8, vi (a0.Kids.length : Int)), (9, vi i2)], ac [], 0⟩ ?_ ?_
  ·
   refine q1 _ ?_
   refine step (v := vs1 x8) (bS (ds := [.int .i64 x8.Op, .int .i64 x8.F, .int .u16 x8.N, eL (some 4) aC x8.Kids]) rfl rfl (show 4 ≤ 4 by decide) rfl) ?_
   refine a9 (r := .int .i64 r9) (aF aL.nil') (hself _ _ hr9) ?_
   iterate 2 refine q1 _ ?_
   exact nR []
  have hh := ap h
  subst hh
  refine bN ⟨tab [(3, vi (gf i1 r9)), (7, aE a0.Kids), (8, vi (a0.Kids.length : Int)), (9, vi (i2 + 1))], ac [], 0⟩ ?_ ?_
  ·
   refine step (v := vi (i2 + 1)) (cM (cN hinv5 hgo4 hB3) rfl rfl) ?_
   refine q1 _ ?_
   exact nR []
  exact And.intro rfl rfl
 ·
  rintro i2 i1 hinv5 hgo4
  show aP _ _ _ _ _ ⟨tab [(3, vi i1), (7, aE a0.Kids), (8, vi (a0.Kids.length : Int)), (9, vi i2)], ac [], 0⟩
  have hc6 : ¬ (decide (i2 < (a0.Kids.length : Int)) = true) := fun hq => hgo4 (of_decide_eq_true hq)
  refine ak ⟨tab [(3, vi i1), (7, aE a0.Kids), (8, vi (a0.Kids.length : Int)), (9, vi i2), (10, vb (decide (i2 < (a0.Kids.length : Int))))], ac [], 0⟩ ?_ ?_
  ·
   refine q1 _ ?_
   exact nR []
  refine aN ?_
  refine aS (t := decide (i2 < (a0.Kids.length : Int))) rfl hc6 ?_
  refine aX (s0 := ⟨tab [(3, vi i1)], ac [], 0⟩) (nr []) ?_
  refine cz ?_
  exact And.intro rfl rfl
 refine ak ⟨tab [(2, vi (IntKind.i64.wrap (z10 + 1)))], ac [], 0⟩ ?_ ?_
 ·
  iterate 3 refine q1 _ ?_
  exact nR []
 have hh := ap h
 subst hh
 refine aV ?_
 show FQ _ _ _ _
 exact bh (.inr rfl) (bn (v := vi (IntKind.i64.wrap (z10 + 1))) rfl rfl) (RV.d trivial)
theorem pj : ∀ (k : Nat) (a0 : aj) (r : Int), fH k a0 = some r → PCall Try.prog 63 [bo a0] (.int .i64 r)
 | 0, _, _, h => by cases h
 | k + 1, _, _, h => vq (pj k) h
theorem vr {a0 : aj} {r : Int} (h : lw a0 = some r) : PCall Try.prog 63 [bo a0] (.int .i64 r) := pj cm _ _ h
theorem vt {a0 : (List aj)} {a1 : aj → Option Bool} {g_a1 : D} (hf_a1 : nY Try.prog g_a1 bo D.bool a1) {r : Int} (h : jL a0 a1 = some r) : PCall Try.prog 110 [eL (some 4) aC a0, g_a1] (.int .i64 r) := by
 obtain ⟨fn_a1, cap_a1, rfl, hc_a1⟩ := hf_a1
 refine PCall.introN tx (show 2 ≤ 19 by decide) ?_
 refine aX (s0 := ⟨tab [(0, aE a0), (1, .d (.func fn_a1 cap_a1))], ac [], 0⟩) (nr []) ?_
 refine ak ⟨tab [(0, aE a0), (1, .d (.func fn_a1 cap_a1))], ac [], 0⟩ ?_ ?_
 ·
  refine q1 _ ?_
  exact nR []
 refine aN ?_
 refine ak ⟨tab [(0, aE a0), (1, .d (.func fn_a1 cap_a1)), (7, vi (a0.length : Int)), (8, vi 0)], ac [], 0⟩ ?_ ?_
 ·
  refine q1 _ ?_
  refine step (v := vi (a0.length : Int)) (bI (xs := a0) (e := aC) rfl) ?_
  refine q1 _ ?_
  exact nR []
 obtain ⟨q10, hl, h⟩ := aq h
 refine bE ?_
 refine ey (cK (a0.length : Int)) (fun (i1 : Int) (qq : Unit) => ⟨tab [(0, aE a0), (1, .d (.func fn_a1 cap_a1)), (7, vi (a0.length : Int)), (8, vi i1)], ac [], 0⟩) 0 (fun (qq : Unit) => ⟨tab [], ac [], 0⟩) bJ cL (r := r) hl (by unfold bJ; omega) ?_ ?_ ?_ ?_
 ·
  rintro i1 ⟨⟩ xr6 hinv4 hgo3 h
  show aP _ _ _ _ _ ⟨tab [(0, aE a0), (1, .d (.func fn_a1 cap_a1)), (7, vi (a0.length : Int)), (8, vi i1)], ac [], 0⟩
  have hc5 : decide (i1 < (a0.length : Int)) = true := decide_eq_true hgo3
  refine ak ⟨tab [(0, aE a0), (1, .d (.func fn_a1 cap_a1)), (7, vi (a0.length : Int)), (8, vi i1), (9, vb (decide (i1 < (a0.length : Int))))], ac [], 0⟩ ?_ ?_
  ·
   refine q1 _ ?_
   exact nR []
  refine cJ 7 rfl fun hB2 => ?_
  refine aN ?_
  refine aT (t := decide (i1 < (a0.length : Int))) rfl hc5 ?_
  refine bm ?_
  refine aN ?_
  refine bE ?_
  refine ak ⟨tab [(0, aE a0), (1, .d (.func fn_a1 cap_a1)), (5, vi i1), (7, vi (a0.length : Int)), (8, vi i1)], ac [], 0⟩ ?_ ?_
  ·
   iterate 2 refine q1 _ ?_
   exact nR []
  obtain ⟨x7, hx7, h⟩ := aq h
  obtain ⟨x8, hx8, h⟩ := aq h
  refine ak ⟨tab [(0, aE a0), (1, .d (.func fn_a1 cap_a1)), (5, vi i1), (7, vi (a0.length : Int)), (8, vi i1), (16, vb x8)], ac [], 0⟩ ?_ ?_
  ·
   iterate 3 refine q1 _ ?_
   refine step (v := aI x7) (dq (xs := a0) (e := aC) hx7 rfl rfl (bP _)) ?_
   refine q1 _ ?_
   refine nJ (r := .bool x8) rfl (aF aL.nil') (hc_a1 _ _ hx8) ?_
   exact nR []
  by_cases hc9 : x8 = true
  ·
   replace h := aG hc9 h
   refine aT (t := x8) rfl hc9 ?_
   refine ak ⟨tab [(4, vi i1)], ac [], 0⟩ ?_ ?_
   ·
    iterate 2 refine q1 _ ?_
    exact nR []
   obtain ⟨r10, kr10, hr⟩ := c5 (o := some i1) (g := Br.ret) h
   subst hr
   have h := kr10
   have hh := ap h
   subst hh
   refine aV ?_
   refine And.intro (fun hn => nomatch hn) ?_
   intro hq
   have hq := hq.symm
   subst hq
   show FQ _ _ _ _
   exact bh (.inr rfl) (bn (v := vi i1) rfl rfl) (RV.d trivial)
  ·
   replace h := aH hc9 h
   refine aS (t := x8) rfl hc9 ?_
   refine bm ?_
   have hh := ap h
   subst hh
   refine bN ⟨tab [(0, aE a0), (1, .d (.func fn_a1 cap_a1)), (7, vi (a0.length : Int)), (8, vi (i1 + 1))], ac [], 0⟩ ?_ ?_
   ·
    refine step (v := vi (i1 + 1)) (cM (cN hinv4 hgo3 hB2) rfl rfl) ?_
    refine q1 _ ?_
    exact nR []
   exact And.intro rfl rfl
 ·
  rintro i1 ⟨⟩ hinv4 hgo3
  show aP _ _ _ _ _ ⟨tab [(0, aE a0), (1, .d (.func fn_a1 cap_a1)), (7, vi (a0.length : Int)), (8, vi i1)], ac [], 0⟩
  have hc5 : ¬ (decide (i1 < (a0.length : Int)) = true) := fun hq => hgo3 (of_decide_eq_true hq)
  refine ak ⟨tab [(0, aE a0), (1, .d (.func fn_a1 cap_a1)), (7, vi (a0.length : Int)), (8, vi i1), (9, vb (decide (i1 < (a0.length : Int))))], ac [], 0⟩ ?_ ?_
  ·
   refine q1 _ ?_
   exact nR []
  refine aN ?_
  refine aS (t := decide (i1 < (a0.length : Int))) rfl hc5 ?_
  refine aX (s0 := ⟨tab [], ac [], 0⟩) (nr []) ?_
  refine cz ?_
  exact And.intro rfl rfl
 ·
  intro r' hq
  subst hq
  exact ap h
 rintro ⟨⟩ rfl
 refine ak ⟨tab [(4, vi (-1))], ac [], 0⟩ ?_ ?_
 ·
  refine q1 _ ?_
  exact nR []
 have hh := ap h
 subst hh
 refine aV ?_
 show FQ _ _ _ _
 exact bh (.inr rfl) (bn (v := vi (-1)) rfl rfl) (RV.d trivial)
theorem pk {a0 : (List aj)} {a1 : aj → Option Bool} {g_a1 : D} (hf_a1 : nY Try.prog g_a1 bo D.bool a1) {r : Bool} (h : gp a0 a1 = some r) : PCall Try.prog 98 [eL (some 4) aC a0, g_a1] (.bool r) := by
 obtain ⟨fn_a1, cap_a1, rfl, hc_a1⟩ := hf_a1
 refine PCall.introN tA (show 2 ≤ 9 by decide) ?_
 refine aX (s0 := ⟨tab [(0, aE a0), (1, .d (.func fn_a1 cap_a1))], ac [], 0⟩) (nr []) ?_
 refine ak ⟨tab [(0, aE a0), (1, .d (.func fn_a1 cap_a1))], ac [], 0⟩ ?_ ?_
 ·
  refine q1 _ ?_
  exact nR []
 obtain ⟨r1, hr1, h⟩ := aq h
 refine ak ⟨tab [(4, vb (decide (r1 ≥ 0)))], ac [], 0⟩ ?_ ?_
 ·
  iterate 2 refine q1 _ ?_
  refine a9 (r := .int .i64 r1) (aF (aF aL.nil')) (vt ⟨_, _, rfl, hc_a1⟩ hr1) ?_
  iterate 2 refine q1 _ ?_
  exact nR []
 have hh := ap h
 subst hh
 refine aV ?_
 show FQ _ _ _ _
 exact bh (.inr rfl) (bn (v := vb (decide (r1 ≥ 0))) rfl rfl) (RV.d trivial)
theorem vv {self : aj → Option Bool} (hself : ∀ (b0 : aj) (r : Bool), self b0 = some r → PCall Try.prog 97 [bo b0] (.bool r)) {a0 : aj} {r : Bool} (h : jM self a0 = some r) : PCall Try.prog 109 [bo a0] (.bool r) := by
 refine PCall.introN tC (show 1 ≤ 6 by decide) ?_
 refine aX (s0 := ⟨tab [(0, vs1 a0)], ac [], 0⟩) (nr []) ?_
 refine ak ⟨tab [(1, aI a0)], ac [], 0⟩ ?_ ?_
 ·
  iterate 2 refine q1 _ ?_
  exact nR []
 obtain ⟨r1, hr1, h⟩ := aq h
 refine ak ⟨tab [(2, vb (!r1))], ac [], 0⟩ ?_ ?_
 ·
  refine q1 _ ?_
  refine a9 (r := .bool r1) (aF aL.nil') (hself _ _ hr1) ?_
  iterate 2 refine q1 _ ?_
  exact nR []
 have hh := ap h
 subst hh
 refine aV ?_
 show FQ _ _ _ _
 exact bh (.inr rfl) (bn (v := vb (!r1)) rfl rfl) (RV.d trivial)
theorem vy {self : aj → Option Bool} (hself : ∀ (a0 : aj) (r : Bool), self a0 = some r → PCall Try.prog 97 [bo a0] (.bool r)) {a0 : aj} {r : Bool} (h : jN self a0 = some r) : PCall Try.prog 97 [bo a0] (.bool r) := by
 refine PCall.introN tE (show 1 ≤ 18 by decide) ?_
 refine aX (s0 := ⟨tab [(0, vs1 a0)], ac [], 0⟩) (nr []) ?_
 refine ak ⟨tab [(1, aI a0)], ac [], 0⟩ ?_ ?_
 ·
  iterate 2 refine q1 _ ?_
  exact nR []
 refine aN ?_
 refine ak ⟨tab [(1, aI a0), (4, vi a0.Op)], ac [], 0⟩ ?_ ?_
 ·
  iterate 2 refine q1 _ ?_
  exact nR []
 refine bE ?_
 obtain ⟨y5, hv, h⟩ := aq h
 refine ex ⟨tab [(1, aI a0), (4, vi a0.Op), (5, vb y5)], ac [], 0⟩ ?_ ?_
 ·
  replace h := hv
  refine ak ⟨tab [(1, aI a0), (4, vi a0.Op), (5, vb (a0.Op == 0))], ac [], 0⟩ ?_ ?_
  ·
   iterate 2 refine q1 _ ?_
   exact nR []
  by_cases hc1 : (a0.Op == 0) = true
  ·
   replace h := aG hc1 h
   refine aT (t := (a0.Op == 0)) rfl hc1 ?_
   have hh := ap h
   subst hh
   refine aX (s0 := ⟨tab [(1, aI a0), (4, vi a0.Op), (5, vb (a0.Op == 0))], ac [], 0⟩) (nr []) ?_
   refine bm ?_
   exact And.intro rfl rfl
  ·
   replace h := aH hc1 h
   refine aS (t := (a0.Op == 0)) rfl hc1 ?_
   refine ak ⟨tab [(1, aI a0), (4, vi a0.Op), (5, vb (a0.Op == 1))], ac [], 0⟩ ?_ ?_
   ·
    iterate 2 refine q1 _ ?_
    exact nR []
   by_cases hc2 : (a0.Op == 1) = true
   ·
    replace h := aG hc2 h
    refine aT (t := (a0.Op == 1)) rfl hc2 ?_
    have hh := ap h
    subst hh
    refine aX (s0 := ⟨tab [(1, aI a0), (4, vi a0.Op), (5, vb (a0.Op == 1))], ac [], 0⟩) (nr []) ?_
    refine bm ?_
    exact And.intro rfl rfl
   ·
    replace h := aH hc2 h
    refine aS (t := (a0.Op == 1)) rfl hc2 ?_
    refine ak ⟨tab [(1, aI a0), (4, vi a0.Op), (5, vb (a0.Op == 2))], ac [], 0⟩ ?_ ?_
    ·
     iterate 2 refine q1 _ ?_
     exact nR []
    by_cases hc3 : (a0.Op == 2) = true
    ·
     replace h := aG hc3 h
     refine aT (t := (a0.Op == 2)) rfl hc3 ?_
     have hh := ap h
     subst hh
     refine aX (s0 := ⟨tab [(1, aI a0), (4, vi a0.Op), (5, vb (a0.Op == 2))], ac [], 0⟩) (nr []) ?_
     refine bm ?_
     exact And.intro rfl rfl
    ·
     replace h := aH hc3 h
     refine aS (t := (a0.Op == 2)) rfl hc3 ?_
     refine ak ⟨tab [(1, aI a0), (4, vi a0.Op), (5, vb (a0.Op == 3))], ac [], 0⟩ ?_ ?_
     ·
      iterate 2 refine q1 _ ?_
      exact nR []
     by_cases hc4 : (a0.Op == 3) = true
     ·
      replace h := aG hc4 h
      refine aT (t := (a0.Op == 3)) rfl hc4 ?_
      have hh := ap h
      subst hh
      refine aX (s0 := ⟨tab [(1, aI a0), (4, vi a0.Op), (5, vb (a0.Op == 3))], ac [], 0⟩) (nr []) ?_
      refine bm ?_
      exact And.intro rfl rfl
     ·
      replace h := aH hc4 h
      refine aS (t := (a0.Op == 3)) rfl hc4 ?_
      have hh := ap h
      subst hh
      refine bN ⟨tab [(1, aI a0), (4, vi a0.Op), (5, vb (a0.Op == 4))], ac [], 0⟩ ?_ ?_
      ·
       iterate 2 refine q1 _ ?_
       exact nR []
      exact And.intro rfl rfl
 by_cases hc7 : y5 = true
 ·
  replace h := aG hc7 h
  refine aT (t := y5) rfl hc7 ?_
  refine ak ⟨tab [(2, vb true)], ac [], 0⟩ ?_ ?_
  ·
   refine q1 _ ?_
   exact nR []
  have hh := ap h
  subst hh
  refine aV ?_
  show FQ _ _ _ _
  exact bh (.inr rfl) (bn (v := vb true) rfl rfl) (RV.d trivial)
 ·
  replace h := aH hc7 h
  refine aS (t := y5) rfl hc7 ?_
  obtain ⟨y9, hv, h⟩ := aq h
  refine ex ⟨tab [(1, aI a0), (11, vb y9)], ac [], 0⟩ ?_ ?_
  ·
   replace h := hv
   refine ak ⟨tab [(1, aI a0), (4, vi a0.Op), (11, vb (a0.Op == 6))], ac [], 0⟩ ?_ ?_
   ·
    iterate 2 refine q1 _ ?_
    exact nR []
   by_cases hc8 : (a0.Op == 6) = true
   ·
    replace h := aG hc8 h
    refine aT (t := (a0.Op == 6)) rfl hc8 ?_
    have hh := ap h
    subst hh
    refine aX (s0 := ⟨tab [(1, aI a0), (11, vb (a0.Op == 6))], ac [], 0⟩) (nr []) ?_
    refine bm ?_
    exact And.intro rfl rfl
   ·
    replace h := aH hc8 h
    refine aS (t := (a0.Op == 6)) rfl hc8 ?_
    have hh := ap h
    subst hh
    refine bN ⟨tab [(1, aI a0), (11, vb (a0.Op == 7))], ac [], 0⟩ ?_ ?_
    ·
     iterate 2 refine q1 _ ?_
     exact nR []
    exact And.intro rfl rfl
  by_cases hc11 : y9 = true
  ·
   replace h := aG hc11 h
   refine aT (t := y9) rfl hc11 ?_
   obtain ⟨r12, hr12, h⟩ := aq h
   refine ak ⟨tab [(2, vb (!r12))], ac [], 0⟩ ?_ ?_
   ·
    iterate 2 refine q1 _ ?_
    refine a9 (r := .bool r12) (aF (aF aL.nil')) (pk ⟨109, [], rfl, fun _ _ h => vv hself h⟩ hr12) ?_
    iterate 2 refine q1 _ ?_
    exact nR []
   have hh := ap h
   subst hh
   refine aV ?_
   show FQ _ _ _ _
   exact bh (.inr rfl) (bn (v := vb (!r12)) rfl rfl) (RV.d trivial)
  ·
   replace h := aH hc11 h
   refine aS (t := y9) rfl hc11 ?_
   refine bm ?_
   refine ak ⟨tab [(2, vb false)], ac [], 0⟩ ?_ ?_
   ·
    refine q1 _ ?_
    exact nR []
   have hh := ap h
   subst hh
   refine aV ?_
   show FQ _ _ _ _
   exact bh (.inr rfl) (bn (v := vb false) rfl rfl) (RV.d trivial)
theorem pm : ∀ (k : Nat) (a0 : aj) (r : Bool), gV k a0 = some r → PCall Try.prog 97 [bo a0] (.bool r)
 | 0, _, _, h => by cases h
 | k + 1, _, _, h => vy (pm k) h
theorem vz {a0 : aj} {r : Bool} (h : lz a0 = some r) : PCall Try.prog 97 [bo a0] (.bool r) := pm cm _ _ h
theorem vA {self : aj → Int → Option Bool} (hself : ∀ (b0 : aj) (b1 : Int) (r : Bool), self b0 b1 = some r → PCall Try.prog 75 [bo b0, .int .i64 b1] (.bool r)) {a0 : aj} {a1 : Int} {r : Bool} (h : jO self a0 a1 = some r) : PCall Try.prog 99 [bo a0, .cptr none (.int .i64 a1) 0] (.bool r) := by
 refine PCall.introN tG (show 2 ≤ 8 by decide) ?_
 refine aX (s0 := ⟨tab [(0, vs1 a0), (1, .d (.cptr none (.int .i64 a1) 0))], ac [], 0⟩) (nr []) ?_
 refine ak ⟨tab [(1, .d (.cptr none (.int .i64 a1) 0)), (2, aI a0)], ac [], 0⟩ ?_ ?_
 ·
  iterate 2 refine q1 _ ?_
  exact nR []
 obtain ⟨r1, hr1, h⟩ := aq h
 refine ak ⟨tab [(3, vb (!r1))], ac [], 0⟩ ?_ ?_
 ·
  iterate 2 refine q1 _ ?_
  refine a9 (r := .bool r1) (aF (aF aL.nil')) (hself _ _ _ hr1) ?_
  iterate 2 refine q1 _ ?_
  exact nR []
 have hh := ap h
 subst hh
 refine aV ?_
 show FQ _ _ _ _
 exact bh (.inr rfl) (bn (v := vb (!r1)) rfl rfl) (RV.d trivial)
theorem vB {self : aj → Int → Option Bool} (hself : ∀ (a0 : aj) (a1 : Int) (r : Bool), self a0 a1 = some r → PCall Try.prog 75 [bo a0, .int .i64 a1] (.bool r)) {a0 : aj} {a1 : Int} {r : Bool} (h : jP self a0 a1 = some r) : PCall Try.prog 75 [bo a0, .int .i64 a1] (.bool r) := by
 refine PCall.introN tI (show 2 ≤ 92 by decide) ?_
 refine aX (s0 := ⟨tab [(0, vs1 a0), (1, vi a1)], ac [], 0⟩) (nr []) ?_
 refine ak ⟨tab [(2, aI a0), (3, .d (.cptr none (.int .i64 a1) 0))], ac [], 0⟩ ?_ ?_
 ·
  iterate 3 refine q1 _ ?_
  exact nR []
 refine ak ⟨tab [(2, aI a0), (3, .d (.cptr none (.int .i64 a1) 0)), (5, vb ((a0.F == 0) && (a0.N == 0)))], ac [], 0⟩ ?_ ?_
 ·
  iterate 4 refine q1 _ ?_
  by_cases hg1 : (a0.F == 0) = true
  ·
   refine qG _ hg1 ?_
   refine q1 _ ?_
   refine qG _ hg1 ?_
   refine q1 _ ?_
   refine qG _ hg1 ?_
   refine q1 _ ?_
   refine step (v := vb (a0.N == 0)) (aJ (b := (a0.F == 0)) rfl hg1 rfl) ?_
   refine q1 _ ?_
   exact aU.nil' (nm [] ⟨.d _, .d _, .eq (by first | (simp [hg1]; done) | (simp_all; done) | grind), trivial⟩ trivial)
  ·
   iterate 3 refine qX _ hg1 ?_
   refine step (v := vb false) (aM (b := (a0.F == 0)) rfl hg1 rfl) ?_
   refine q1 _ ?_
   exact aU.nil' (nm [] ⟨.d _, .d _, .eq (by first | (simp [hg1]; done) | (simp_all; done) | grind), trivial⟩ trivial)
 refine ak ⟨tab [(2, aI a0), (3, .d (.cptr none (.int .i64 a1) 0)), (5, vb ((a0.F == 0) && (a0.N == 0))), (6, vi 0), (7, vi 8)], ac [], 0⟩ ?_ ?_
 ·
  iterate 2 refine q1 _ ?_
  exact nR []
 obtain ⟨q30, hv, h⟩ := aq h
 refine nU (fun (qq : (Int × Int)) => ⟨tab [(2, aI a0), (6, vi qq.1), (7, vi qq.2)], ac [], 0⟩) (xv := q30) (r := r) ?_ ?_ ?_
 ·
  replace h := hv
  refine ak ⟨tab [(2, aI a0), (3, .d (.cptr none (.int .i64 a1) 0)), (5, vb ((a0.F == 0) && (a0.N == 0))), (6, vi 0), (7, vi 8), (17, vi a0.Op)], ac [], 0⟩ ?_ ?_
  ·
   iterate 2 refine q1 _ ?_
   exact nR []
  refine bE ?_
  obtain ⟨y3, hv, h⟩ := aq h
  refine ex ⟨tab [(2, aI a0), (3, .d (.cptr none (.int .i64 a1) 0)), (5, vb ((a0.F == 0) && (a0.N == 0))), (6, vi 0), (7, vi 8), (17, vi a0.Op), (18, vb y3)], ac [], 0⟩ ?_ ?_
  ·
   replace h := hv
   refine ak ⟨tab [(2, aI a0), (3, .d (.cptr none (.int .i64 a1) 0)), (5, vb ((a0.F == 0) && (a0.N == 0))), (6, vi 0), (7, vi 8), (17, vi a0.Op), (18, vb (a0.Op == 0))], ac [], 0⟩ ?_ ?_
   ·
    iterate 2 refine q1 _ ?_
    exact nR []
   by_cases hc2 : (a0.Op == 0) = true
   ·
    replace h := aG hc2 h
    refine aT (t := (a0.Op == 0)) rfl hc2 ?_
    have hh := ap h
    subst hh
    refine aX (s0 := ⟨tab [(2, aI a0), (3, .d (.cptr none (.int .i64 a1) 0)), (5, vb ((a0.F == 0) && (a0.N == 0))), (6, vi 0), (7, vi 8), (17, vi a0.Op), (18, vb (a0.Op == 0))], ac [], 0⟩) (nr []) ?_
    refine bm ?_
    exact And.intro rfl rfl
   ·
    replace h := aH hc2 h
    refine aS (t := (a0.Op == 0)) rfl hc2 ?_
    have hh := ap h
    subst hh
    refine bN ⟨tab [(2, aI a0), (3, .d (.cptr none (.int .i64 a1) 0)), (5, vb ((a0.F == 0) && (a0.N == 0))), (6, vi 0), (7, vi 8), (17, vi a0.Op), (18, vb (a0.Op == 1))], ac [], 0⟩ ?_ ?_
    ·
     iterate 2 refine q1 _ ?_
     exact nR []
    exact And.intro rfl rfl
  by_cases hc5 : y3 = true
  ·
   replace h := aG hc5 h
   refine aT (t := y3) rfl hc5 ?_
   refine ak ⟨tab [(4, vb (((a0.Kids.length : Int) == 0) && ((a0.F == 0) && (a0.N == 0))))], ac [], 0⟩ ?_ ?_
   ·
    iterate 2 refine q1 _ ?_
    refine step (v := vi (a0.Kids.length : Int)) (bI (xs := a0.Kids) (e := aC) rfl) ?_
    iterate 2 refine q1 _ ?_
    by_cases hg6 : ((a0.Kids.length : Int) == 0) = true
    ·
     refine qG _ hg6 ?_
     refine q1 _ ?_
     refine step (v := vb ((a0.F == 0) && (a0.N == 0))) (aJ (b := ((a0.Kids.length : Int) == 0)) rfl hg6 rfl) ?_
     refine q1 _ ?_
     exact aU.nil' (nm [] ⟨.eq (by first | (simp [hg6]; done) | (simp_all; done) | grind), trivial⟩ trivial)
    ·
     refine qX _ hg6 ?_
     refine step (v := vb false) (aM (b := ((a0.Kids.length : Int) == 0)) rfl hg6 rfl) ?_
     refine q1 _ ?_
     exact aU.nil' (nm [] ⟨.eq (by first | (simp [hg6]; done) | (simp_all; done) | grind), trivial⟩ trivial)
   obtain ⟨r7, kr7, hr⟩ := c5 (o := some (((a0.Kids.length : Int) == 0) && ((a0.F == 0) && (a0.N == 0)))) (g := Sum.inr) h
   subst hr
   have h := kr7
   have hh := ap h
   subst hh
   refine aV ?_
   refine And.intro (fun hn => nomatch hn) ?_
   intro hq
   have hq := hq.symm
   subst hq
   show FQ _ _ _ _
   exact bh (.inr rfl) (bn (v := vb (((a0.Kids.length : Int) == 0) && ((a0.F == 0) && (a0.N == 0)))) rfl rfl) (RV.d trivial)
  ·
   replace h := aH hc5 h
   refine aS (t := y3) rfl hc5 ?_
   refine ak ⟨tab [(2, aI a0), (3, .d (.cptr none (.int .i64 a1) 0)), (5, vb ((a0.F == 0) && (a0.N == 0))), (6, vi 0), (7, vi 8), (17, vi a0.Op), (28, vb (a0.Op == 4))], ac [], 0⟩ ?_ ?_
   ·
    iterate 2 refine q1 _ ?_
    exact nR []
   by_cases hc7 : (a0.Op == 4) = true
   ·
    replace h := aG hc7 h
    refine aT (t := (a0.Op == 4)) rfl hc7 ?_
    obtain ⟨y14, hv, h⟩ := aq h
    refine ak ⟨tab [(4, vb y14)], ac [], 0⟩ ?_ ?_
    ·
     iterate 2 refine q1 _ ?_
     refine step (v := vi (a0.Kids.length : Int)) (bI (xs := a0.Kids) (e := aC) rfl) ?_
     iterate 2 refine q1 _ ?_
     by_cases hg8 : ((a0.Kids.length : Int) == 1) = true
     ·
      replace hv := aG hg8 hv
      refine qG _ hg8 ?_
      refine q1 _ ?_
      refine step (v := vb ((a0.F == 0) && (a0.N == 0))) (aJ (b := ((a0.Kids.length : Int) == 1)) rfl hg8 rfl) ?_
      refine q1 _ ?_
      by_cases hg9 : ((a0.F == 0) && (a0.N == 0)) = true
      ·
       replace hv := aG hg9 hv
       obtain ⟨x10, hx10, hv⟩ := aq hv
       obtain ⟨r11, hr11, hv⟩ := aq hv
       refine qG _ hg9 ?_
       refine q1 _ ?_
       refine qG _ hg9 ?_
       refine q1 _ ?_
       refine qG _ hg9 ?_
       refine step (v := aI x10) (dq (xs := a0.Kids) (e := aC) hx10 rfl rfl (bP _)) ?_
       refine qG _ hg9 ?_
       refine q1 _ ?_
       refine qG _ hg9 ?_
       refine a9 (r := .bool r11) (aF aL.nil') (vz hr11) ?_
       refine step (v := vb r11) (aJ (b := ((a0.F == 0) && (a0.N == 0))) rfl hg9 rfl) ?_
       refine q1 _ ?_
       by_cases hg12 : r11 = true
       ·
        replace hv := aG hg12 hv
        obtain ⟨r13, hr13, hv⟩ := aq hv
        refine qG _ hg12 ?_
        refine q1 _ ?_
        refine qG _ hg12 ?_
        refine q1 _ ?_
        refine qG _ hg12 ?_
        refine step (v := aI x10) (dq (xs := a0.Kids) (e := aC) hx10 rfl rfl (bP _)) ?_
        refine qG _ hg12 ?_
        refine q1 _ ?_
        refine qG _ hg12 ?_
        refine q1 _ ?_
        refine qG _ hg12 ?_
        refine a9 (r := .bool r13) (aF (aF aL.nil')) (hself _ _ _ hr13) ?_
        refine step (v := vb r13) (aJ (b := r11) rfl hg12 rfl) ?_
        refine q1 _ ?_
        have hh := ap hv
        subst hh
        exact nR []
       ·
        replace hv := aH hg12 hv
        iterate 6 refine qX _ hg12 ?_
        refine step (v := vb false) (aM (b := r11) rfl hg12 rfl) ?_
        refine q1 _ ?_
        have hh := ap hv
        subst hh
        exact nR []
      ·
       replace hv := aH hg9 hv
       iterate 5 refine qX _ hg9 ?_
       refine step (v := vb false) (aM (b := ((a0.F == 0) && (a0.N == 0))) rfl hg9 rfl) ?_
       refine q1 _ ?_
       iterate 6 refine qX false (by decide) ?_
       refine step (v := vb false) (aM (b := false) rfl (by decide) rfl) ?_
       refine q1 _ ?_
       have hh := ap hv
       subst hh
       exact nR []
     ·
      replace hv := aH hg8 hv
      refine qX _ hg8 ?_
      refine step (v := vb false) (aM (b := ((a0.Kids.length : Int) == 1)) rfl hg8 rfl) ?_
      refine q1 _ ?_
      iterate 5 refine qX false (by decide) ?_
      refine step (v := vb false) (aM (b := false) rfl (by decide) rfl) ?_
      refine q1 _ ?_
      iterate 6 refine qX false (by decide) ?_
      refine step (v := vb false) (aM (b := false) rfl (by decide) rfl) ?_
      refine q1 _ ?_
      have hh := ap hv
      subst hh
      exact nR []
    obtain ⟨r16, kr16, hr⟩ := c5 (o := some y14) (g := Sum.inr) h
    subst hr
    have h := kr16
    have hh := ap h
    subst hh
    refine aV ?_
    refine And.intro (fun hn => nomatch hn) ?_
    intro hq
    have hq := hq.symm
    subst hq
    show FQ _ _ _ _
    exact bh (.inr rfl) (bn (v := vb y14) rfl rfl) (RV.d trivial)
   ·
    replace h := aH hc7 h
    refine aS (t := (a0.Op == 4)) rfl hc7 ?_
    obtain ⟨y17, hv, h⟩ := aq h
    refine ex ⟨tab [(2, aI a0), (3, .d (.cptr none (.int .i64 a1) 0)), (5, vb ((a0.F == 0) && (a0.N == 0))), (6, vi 0), (7, vi 8), (17, vi a0.Op), (52, vb y17)], ac [], 0⟩ ?_ ?_
    ·
     replace h := hv
     refine ak ⟨tab [(2, aI a0), (3, .d (.cptr none (.int .i64 a1) 0)), (5, vb ((a0.F == 0) && (a0.N == 0))), (6, vi 0), (7, vi 8), (17, vi a0.Op), (52, vb (a0.Op == 6))], ac [], 0⟩ ?_ ?_
     ·
      iterate 2 refine q1 _ ?_
      exact nR []
     by_cases hc16 : (a0.Op == 6) = true
     ·
      replace h := aG hc16 h
      refine aT (t := (a0.Op == 6)) rfl hc16 ?_
      have hh := ap h
      subst hh
      refine aX (s0 := ⟨tab [(2, aI a0), (3, .d (.cptr none (.int .i64 a1) 0)), (5, vb ((a0.F == 0) && (a0.N == 0))), (6, vi 0), (7, vi 8), (17, vi a0.Op), (52, vb (a0.Op == 6))], ac [], 0⟩) (nr []) ?_
      refine bm ?_
      exact And.intro rfl rfl
     ·
      replace h := aH hc16 h
      refine aS (t := (a0.Op == 6)) rfl hc16 ?_
      have hh := ap h
      subst hh
      refine bN ⟨tab [(2, aI a0), (3, .d (.cptr none (.int .i64 a1) 0)), (5, vb ((a0.F == 0) && (a0.N == 0))), (6, vi 0), (7, vi 8), (17, vi a0.Op), (52, vb (a0.Op == 7))], ac [], 0⟩ ?_ ?_
      ·
       iterate 2 refine q1 _ ?_
       exact nR []
      exact And.intro rfl rfl
    by_cases hc19 : y17 = true
    ·
     replace h := aG hc19 h
     refine aT (t := y17) rfl hc19 ?_
     obtain ⟨y23, hv, h⟩ := aq h
     refine ak ⟨tab [(4, vb y23)], ac [], 0⟩ ?_ ?_
     ·
      iterate 2 refine q1 _ ?_
      refine step (v := vi (a0.Kids.length : Int)) (bI (xs := a0.Kids) (e := aC) rfl) ?_
      iterate 2 refine q1 _ ?_
      by_cases hg20 : decide ((a0.Kids.length : Int) ≥ 2) = true
      ·
       replace hv := aG hg20 hv
       refine qG _ hg20 ?_
       refine q1 _ ?_
       refine step (v := vb ((a0.F == 0) && (a0.N == 0))) (aJ (b := decide ((a0.Kids.length : Int) ≥ 2)) rfl hg20 rfl) ?_
       refine q1 _ ?_
       by_cases hg21 : ((a0.F == 0) && (a0.N == 0)) = true
       ·
        replace hv := aG hg21 hv
        obtain ⟨r22, hr22, hv⟩ := aq hv
        refine qG _ hg21 ?_
        refine q1 _ ?_
        refine qG _ hg21 ?_
        refine q1 _ ?_
        refine qG _ hg21 ?_
        refine q1 _ ?_
        refine qG _ hg21 ?_
        refine a9 (r := .bool r22) (aF (aF aL.nil')) (pk ⟨99, [.cptr none (.int .i64 a1) 0], rfl, fun _ _ h => vA hself h⟩ hr22) ?_
        refine qG _ hg21 ?_
        refine q1 _ ?_
        refine step (v := vb (!r22)) (aJ (b := ((a0.F == 0) && (a0.N == 0))) rfl hg21 rfl) ?_
        refine q1 _ ?_
        have hh := ap hv
        subst hh
        exact nR []
       ·
        replace hv := aH hg21 hv
        iterate 5 refine qX _ hg21 ?_
        refine step (v := vb false) (aM (b := ((a0.F == 0) && (a0.N == 0))) rfl hg21 rfl) ?_
        refine q1 _ ?_
        have hh := ap hv
        subst hh
        exact nR []
      ·
       replace hv := aH hg20 hv
       refine qX _ hg20 ?_
       refine step (v := vb false) (aM (b := decide ((a0.Kids.length : Int) ≥ 2)) rfl hg20 rfl) ?_
       refine q1 _ ?_
       iterate 5 refine qX false (by decide) ?_
       refine step (v := vb false) (aM (b := false) rfl (by decide) rfl) ?_
       refine q1 _ ?_
       have hh := ap hv
       subst hh
       exact nR []
     obtain ⟨r25, kr25, hr⟩ := c5 (o := some y23) (g := Sum.inr) h
     subst hr
     have h := kr25
     have hh := ap h
     subst hh
     refine aV ?_
     refine And.intro (fun hn => nomatch hn) ?_
     intro hq
     have hq := hq.symm
     subst hq
     show FQ _ _ _ _
     exact bh (.inr rfl) (bn (v := vb y23) rfl rfl) (RV.d trivial)
    ·
     replace h := aH hc19 h
     refine aS (t := y17) rfl hc19 ?_
     refine ak ⟨tab [(2, aI a0), (3, .d (.cptr none (.int .i64 a1) 0)), (6, vi 0), (7, vi 8), (17, vi a0.Op), (69, vb (a0.Op == 2))], ac [], 0⟩ ?_ ?_
     ·
      iterate 2 refine q1 _ ?_
      exact nR []
     by_cases hc25 : (a0.Op == 2) = true
     ·
      replace h := aG hc25 h
      refine aT (t := (a0.Op == 2)) rfl hc25 ?_
      have hh := ap h
      subst hh
      refine aX (s0 := ⟨tab [(2, aI a0), (6, vi 0), (7, vi 8)], ac [], 0⟩) (nr []) ?_
      refine bm ?_
      exact And.intro rfl rfl
     ·
      replace h := aH hc25 h
      refine aS (t := (a0.Op == 2)) rfl hc25 ?_
      refine ak ⟨tab [(2, aI a0), (3, .d (.cptr none (.int .i64 a1) 0)), (6, vi 0), (7, vi 8), (17, vi a0.Op), (71, vb (a0.Op == 5))], ac [], 0⟩ ?_ ?_
      ·
       iterate 2 refine q1 _ ?_
       exact nR []
      by_cases hc26 : (a0.Op == 5) = true
      ·
       replace h := aG hc26 h
       refine aT (t := (a0.Op == 5)) rfl hc26 ?_
       have hh := ap h
       subst hh
       refine bN ⟨tab [(2, aI a0), (6, vi 1), (7, vi 8)], ac [], 0⟩ ?_ ?_
       ·
        refine q1 _ ?_
        exact nR []
       exact And.intro rfl rfl
      ·
       replace h := aH hc26 h
       refine aS (t := (a0.Op == 5)) rfl hc26 ?_
       refine ak ⟨tab [(2, aI a0), (3, .d (.cptr none (.int .i64 a1) 0)), (6, vi 0), (73, vb (a0.Op == 3))], ac [], 0⟩ ?_ ?_
       ·
        iterate 2 refine q1 _ ?_
        exact nR []
       by_cases hc27 : (a0.Op == 3) = true
       ·
        replace h := aG hc27 h
        refine aT (t := (a0.Op == 3)) rfl hc27 ?_
        have hh := ap h
        subst hh
        refine bN ⟨tab [(2, aI a0), (6, vi 0), (7, vi a1)], ac [], 0⟩ ?_ ?_
        ·
         iterate 2 refine q1 _ ?_
         exact nR []
        exact And.intro rfl rfl
       ·
        replace h := aH hc27 h
        refine aS (t := (a0.Op == 3)) rfl hc27 ?_
        refine ak ⟨tab [(4, vb false)], ac [], 0⟩ ?_ ?_
        ·
         refine q1 _ ?_
         exact nR []
        obtain ⟨r28, kr28, hr⟩ := c5 (o := some false) (g := Sum.inr) h
        subst hr
        have h := kr28
        have hh := ap h
        subst hh
        refine aV ?_
        refine And.intro (fun hn => nomatch hn) ?_
        intro hq
        have hq := hq.symm
        subst hq
        show FQ _ _ _ _
        exact bh (.inr rfl) (bn (v := vb false) rfl rfl) (RV.d trivial)
 ·
  intro r' hq
  subst hq
  exact ap h
 rintro ⟨y28, y29⟩ rfl
 show aP _ _ _ _ _ ⟨tab [(2, aI a0), (6, vi y28), (7, vi y29)], ac [], 0⟩
 refine ak ⟨tab [(4, vb (((a0.Kids.length : Int) == 0) && ((decide (a0.F ≥ y28)) && (decide (a0.F < y29)))))], ac [], 0⟩ ?_ ?_
 ·
  iterate 2 refine q1 _ ?_
  refine step (v := vi (a0.Kids.length : Int)) (bI (xs := a0.Kids) (e := aC) rfl) ?_
  iterate 2 refine q1 _ ?_
  by_cases hg31 : ((a0.Kids.length : Int) == 0) = true
  ·
   refine qG _ hg31 ?_
   refine q1 _ ?_
   refine qG _ hg31 ?_
   refine q1 _ ?_
   refine qG _ hg31 ?_
   refine q1 _ ?_
   refine qG _ hg31 ?_
   refine q1 _ ?_
   refine step (v := vb (decide (a0.F ≥ y28))) (aJ (b := ((a0.Kids.length : Int) == 0)) rfl hg31 rfl) ?_
   refine q1 _ ?_
   by_cases hg32 : decide (a0.F ≥ y28) = true
   ·
    refine qG _ hg32 ?_
    refine q1 _ ?_
    refine qG _ hg32 ?_
    refine q1 _ ?_
    refine qG _ hg32 ?_
    refine q1 _ ?_
    refine qG _ hg32 ?_
    refine q1 _ ?_
    refine step (v := vb (decide (a0.F < y29))) (aJ (b := decide (a0.F ≥ y28)) rfl hg32 rfl) ?_
    refine q1 _ ?_
    exact aU.nil' (nm [] ⟨.eq (by first | (simp [hg31, hg32]; done) | (simp_all; done) | grind), trivial⟩ trivial)
   ·
    iterate 4 refine qX _ hg32 ?_
    refine step (v := vb false) (aM (b := decide (a0.F ≥ y28)) rfl hg32 rfl) ?_
    refine q1 _ ?_
    exact aU.nil' (nm [] ⟨.eq (by first | (simp [hg31, hg32]; done) | (simp_all; done) | grind), trivial⟩ trivial)
  ·
   iterate 4 refine qX _ hg31 ?_
   refine step (v := vb false) (aM (b := ((a0.Kids.length : Int) == 0)) rfl hg31 rfl) ?_
   refine q1 _ ?_
   iterate 4 refine qX false (by decide) ?_
   refine step (v := vb false) (aM (b := false) rfl (by decide) rfl) ?_
   refine q1 _ ?_
   exact aU.nil' (nm [] ⟨.eq (by first | (simp [hg31]; done) | (simp_all; done) | grind), trivial⟩ trivial)
 have hh := ap h
 subst hh
 refine aV ?_
 show FQ _ _ _ _
 exact bh (.inr rfl) (bn (v := vb (((a0.Kids.length : Int) == 0) && ((decide (a0.F ≥ y28)) && (decide (a0.F < y29))))) rfl rfl) (RV.d trivial)
theorem pn : ∀ (k : Nat) (a0 : aj) (a1 : Int) (r : Bool), gW k a0 a1 = some r → PCall Try.prog 75 [bo a0, .int .i64 a1] (.bool r)
 | 0, _, _, _, h => by cases h
 | k + 1, _, _, _, h => vB (pn k) h
theorem vC {a0 : aj} {a1 : Int} {r : Bool} (h : lA a0 a1 = some r) : PCall Try.prog 75 [bo a0, .int .i64 a1] (.bool r) := pn cm _ _ _ h
theorem md {a0 : (List dX)} {a1 : Int} {r : Bool} (h : jQ a0 a1 = some r) : PCall Try.prog 76 [eL (some 2) cx a0, .int .i64 a1] (.bool r) := by
 refine PCall.introN tL (show 2 ≤ 39 by decide) ?_
 refine aX (s0 := ⟨tab [(0, bz a0), (1, vi a1)], ac [], 0⟩) (nr []) ?_
 refine ak ⟨tab [(0, bz a0), (1, vi a1)], ac [], 0⟩ ?_ ?_
 ·
  refine q1 _ ?_
  exact nR []
 refine aN ?_
 refine ak ⟨tab [(0, bz a0), (1, vi a1), (7, bz a0), (8, vi (a0.length : Int)), (9, vi 0)], ac [], 0⟩ ?_ ?_
 ·
  refine q1 _ ?_
  refine step (v := vi (a0.length : Int)) (bI (xs := a0) (e := cx) rfl) ?_
  refine q1 _ ?_
  exact nR []
 obtain ⟨q15, hl, h⟩ := aq h
 refine bE ?_
 refine ey (cK (a0.length : Int)) (fun (i1 : Int) (qq : Unit) => ⟨tab [(0, bz a0), (1, vi a1), (7, bz a0), (8, vi (a0.length : Int)), (9, vi i1)], ac [], 0⟩) 0 (fun (qq : Unit) => ⟨tab [], ac [], 0⟩) bJ cL (r := r) hl (by unfold bJ; omega) ?_ ?_ ?_ ?_
 ·
  rintro i1 ⟨⟩ xr6 hinv4 hgo3 h
  show aP _ _ _ _ _ ⟨tab [(0, bz a0), (1, vi a1), (7, bz a0), (8, vi (a0.length : Int)), (9, vi i1)], ac [], 0⟩
  have hc5 : decide (i1 < (a0.length : Int)) = true := decide_eq_true hgo3
  refine ak ⟨tab [(0, bz a0), (1, vi a1), (7, bz a0), (8, vi (a0.length : Int)), (9, vi i1), (10, vb (decide (i1 < (a0.length : Int))))], ac [], 0⟩ ?_ ?_
  ·
   refine q1 _ ?_
   exact nR []
  refine cJ 8 rfl fun hB2 => ?_
  refine aN ?_
  refine aT (t := decide (i1 < (a0.length : Int))) rfl hc5 ?_
  refine bm ?_
  refine aN ?_
  refine bE ?_
  obtain ⟨x7, hx7, h⟩ := aq h
  refine ak ⟨tab [(0, bz a0), (1, vi a1), (5, vi i1), (6, .ptr 0 0 0), (7, bz a0), (8, vi (a0.length : Int)), (9, vi i1)], ac [(0, .var [vi x7.F, vh x7.N])], 1⟩ ?_ ?_
  ·
   refine q1 _ ?_
   refine step (v := fc x7) (cZ (xs := a0) (e := cx) hx7 rfl rfl) ?_
   refine q1 _ ?_
   refine step (v := .ptr 0 0 0) (σ' := (al (ac []) 0 (some (.var [vi 0, vh 0])))) (n' := 1) rfl ?_
   refine q1 _ ?_
   refine step (v := V.undef) (σ' := (al (al (ac []) 0 (some (.var [vi 0, vh 0]))) 0 (some (.var [vi x7.F, vh x7.N])))) (n' := 1) rfl ?_
   exact nR [0]
  obtain ⟨y12, hv, h⟩ := aq h
  refine ak ⟨tab [(0, bz a0), (1, vi a1), (7, bz a0), (8, vi (a0.length : Int)), (9, vi i1), (37, vb y12)], ac [], 0⟩ ?_ ?_
  ·
   iterate 4 refine q1 _ ?_
   by_cases hg8 : decide (x7.F < 0) = true
   ·
    replace hv := aG hg8 hv
    iterate 4 refine qX (decide (x7.F < 0)) (by rw [hg8]; decide) ?_
    refine step (v := vb true) (aJ (b := decide (x7.F < 0)) rfl hg8 rfl) ?_
    refine q1 _ ?_
    iterate 3 refine qX true (by decide) ?_
    refine bM rfl ?_
    refine bM rfl ?_
    refine bM rfl ?_
    refine bM rfl ?_
    refine bM rfl ?_
    refine bM rfl ?_
    refine bM rfl ?_
    refine bM rfl ?_
    refine bM rfl ?_
    refine qX true (by decide) ?_
    refine step (v := vb true) (aJ (b := true) rfl rfl rfl) ?_
    have hh := ap hv
    subst hh
    exact nR []
   ·
    replace hv := aH hg8 hv
    refine qG (decide (x7.F < 0)) (Bool.eq_false_iff.2 hg8) ?_
    refine q1 _ ?_
    refine qG (decide (x7.F < 0)) (Bool.eq_false_iff.2 hg8) ?_
    refine q1 _ ?_
    refine qG (decide (x7.F < 0)) (Bool.eq_false_iff.2 hg8) ?_
    refine q1 _ ?_
    refine qG (decide (x7.F < 0)) (Bool.eq_false_iff.2 hg8) ?_
    refine q1 _ ?_
    refine step (v := vb (decide (x7.F ≥ a1))) (aM (b := decide (x7.F < 0)) rfl hg8 rfl) ?_
    refine q1 _ ?_
    by_cases hg9 : decide (x7.F ≥ a1) = true
    ·
     replace hv := aG hg9 hv
     iterate 3 refine qX (decide (x7.F ≥ a1)) (by rw [hg9]; decide) ?_
     refine bM rfl ?_
     refine bM rfl ?_
     refine bM rfl ?_
     refine bM rfl ?_
     refine bM rfl ?_
     refine bM rfl ?_
     refine bM rfl ?_
     refine bM rfl ?_
     refine bM rfl ?_
     refine qX (decide (x7.F ≥ a1)) (by rw [hg9]; decide) ?_
     refine step (v := vb true) (aJ (b := decide (x7.F ≥ a1)) rfl hg9 rfl) ?_
     have hh := ap hv
     subst hh
     exact nR []
    ·
     replace hv := aH hg9 hv
     refine qG (decide (x7.F ≥ a1)) (Bool.eq_false_iff.2 hg9) ?_
     refine q1 _ ?_
     refine qG (decide (x7.F ≥ a1)) (Bool.eq_false_iff.2 hg9) ?_
     refine q1 _ ?_
     refine qG (decide (x7.F ≥ a1)) (Bool.eq_false_iff.2 hg9) ?_
     refine q1 _ ?_
     by_cases hg10 : decide (i1 > 0) = true
     ·
      replace hv := aG hg10 hv
      obtain ⟨x11, hx11, hv⟩ := aq hv
      refine qG _ hg10 ?_
      refine q1 _ ?_
      refine qG _ hg10 ?_
      refine q1 _ ?_
      refine qG _ hg10 ?_
      refine q1 _ ?_
      refine qG _ hg10 ?_
      refine step (v := fc x11) (cZ (xs := a0) (e := cx) hx11 rfl rfl) ?_
      refine qG _ hg10 ?_
      refine q1 _ ?_
      refine qG _ hg10 ?_
      refine q1 _ ?_
      refine qG _ hg10 ?_
      refine q1 _ ?_
      refine qG _ hg10 ?_
      refine q1 _ ?_
      refine qG _ hg10 ?_
      refine q1 _ ?_
      refine qG (decide (x7.F ≥ a1)) (Bool.eq_false_iff.2 hg9) ?_
      refine step (v := vb (decide (x11.F ≥ x7.F))) (aJ (b := decide (i1 > 0)) rfl hg10 rfl) ?_
      refine step (v := vb (decide (x11.F ≥ x7.F))) (aM (b := decide (x7.F ≥ a1)) rfl hg9 rfl) ?_
      have hh := ap hv
      subst hh
      exact nR []
     ·
      replace hv := aH hg10 hv
      iterate 9 refine qX _ hg10 ?_
      refine qG (decide (x7.F ≥ a1)) (Bool.eq_false_iff.2 hg9) ?_
      refine step (v := vb false) (aM (b := decide (i1 > 0)) rfl hg10 rfl) ?_
      refine step (v := vb false) (aM (b := decide (x7.F ≥ a1)) rfl hg9 rfl) ?_
      have hh := ap hv
      subst hh
      exact nR []
  by_cases hc14 : y12 = true
  ·
   replace h := aG hc14 h
   refine aT (t := y12) rfl hc14 ?_
   refine ak ⟨tab [(4, vb false)], ac [], 0⟩ ?_ ?_
   ·
    refine q1 _ ?_
    exact nR []
   obtain ⟨r15, kr15, hr⟩ := c5 (o := some false) (g := Br.ret) h
   subst hr
   have h := kr15
   have hh := ap h
   subst hh
   refine aV ?_
   refine And.intro (fun hn => nomatch hn) ?_
   intro hq
   have hq := hq.symm
   subst hq
   show FQ _ _ _ _
   exact bh (.inr rfl) (bn (v := vb false) rfl rfl) (RV.d trivial)
  ·
   replace h := aH hc14 h
   refine aS (t := y12) rfl hc14 ?_
   refine bm ?_
   have hh := ap h
   subst hh
   refine bN ⟨tab [(0, bz a0), (1, vi a1), (7, bz a0), (8, vi (a0.length : Int)), (9, vi (i1 + 1))], ac [], 0⟩ ?_ ?_
   ·
    refine step (v := vi (i1 + 1)) (cM (cN hinv4 hgo3 hB2) rfl rfl) ?_
    refine q1 _ ?_
    exact nR []
   exact And.intro rfl rfl
 ·
  rintro i1 ⟨⟩ hinv4 hgo3
  show aP _ _ _ _ _ ⟨tab [(0, bz a0), (1, vi a1), (7, bz a0), (8, vi (a0.length : Int)), (9, vi i1)], ac [], 0⟩
  have hc5 : ¬ (decide (i1 < (a0.length : Int)) = true) := fun hq => hgo3 (of_decide_eq_true hq)
  refine ak ⟨tab [(0, bz a0), (1, vi a1), (7, bz a0), (8, vi (a0.length : Int)), (9, vi i1), (10, vb (decide (i1 < (a0.length : Int))))], ac [], 0⟩ ?_ ?_
  ·
   refine q1 _ ?_
   exact nR []
  refine aN ?_
  refine aS (t := decide (i1 < (a0.length : Int))) rfl hc5 ?_
  refine aX (s0 := ⟨tab [], ac [], 0⟩) (nr []) ?_
  refine cz ?_
  exact And.intro rfl rfl
 ·
  intro r' hq
  subst hq
  exact ap h
 rintro ⟨⟩ rfl
 refine ak ⟨tab [(4, vb true)], ac [], 0⟩ ?_ ?_
 ·
  refine q1 _ ?_
  exact nR []
 have hh := ap h
 subst hh
 refine aV ?_
 show FQ _ _ _ _
 exact bh (.inr rfl) (bn (v := vb true) rfl rfl) (RV.d trivial)
theorem vD {a0 : ez} {r : Int} (h : jR a0 = some r) : PCall Try.prog 48 [i7 a0] (.int .i64 r) := by
 refine PCall.introN tO (show 1 ≤ 95 by decide) ?_
 refine aX (s0 := ⟨tab [(0, .d (i7 a0))], ac [], 0⟩) (nr []) ?_
 refine ak ⟨tab [(1, dw a0)], ac [], 0⟩ ?_ ?_
 ·
  iterate 2 refine q1 _ ?_
  exact nR []
 refine ak ⟨tab [(1, dw a0), (3, vi (a0.Init.length : Int))], ac [], 0⟩ ?_ ?_
 ·
  iterate 2 refine q1 _ ?_
  refine step (v := vi (a0.Init.length : Int)) (bI (xs := a0.Init) (e := (D.int .u16)) rfl) ?_
  refine q1 _ ?_
  exact nR []
 refine aN ?_
 obtain ⟨y7, hv, h⟩ := aq h
 refine ak ⟨tab [(1, dw a0), (3, vi (a0.Init.length : Int)), (33, vb y7)], ac [], 0⟩ ?_ ?_
 ·
  iterate 3 refine q1 _ ?_
  by_cases hg1 : decide ((a0.Init.length : Int) < 1) = true
  ·
   replace hv := aG hg1 hv
   iterate 2 refine qX (decide ((a0.Init.length : Int) < 1)) (by rw [hg1]; decide) ?_
   refine step (v := vb true) (aJ (b := decide ((a0.Init.length : Int) < 1)) rfl hg1 rfl) ?_
   refine q1 _ ?_
   iterate 4 refine qX true (by decide) ?_
   refine step (v := vb true) (aJ (b := true) rfl rfl rfl) ?_
   refine q1 _ ?_
   iterate 4 refine qX true (by decide) ?_
   refine step (v := vb true) (aJ (b := true) rfl rfl rfl) ?_
   refine q1 _ ?_
   iterate 4 refine qX true (by decide) ?_
   refine step (v := vb true) (aJ (b := true) rfl rfl rfl) ?_
   have hh := ap hv
   subst hh
   exact nR []
  ·
   replace hv := aH hg1 hv
   refine qG (decide ((a0.Init.length : Int) < 1)) (Bool.eq_false_iff.2 hg1) ?_
   refine q1 _ ?_
   refine qG (decide ((a0.Init.length : Int) < 1)) (Bool.eq_false_iff.2 hg1) ?_
   refine q1 _ ?_
   refine step (v := vb (decide ((a0.Init.length : Int) > 4))) (aM (b := decide ((a0.Init.length : Int) < 1)) rfl hg1 rfl) ?_
   refine q1 _ ?_
   by_cases hg2 : decide ((a0.Init.length : Int) > 4) = true
   ·
    replace hv := aG hg2 hv
    iterate 4 refine qX (decide ((a0.Init.length : Int) > 4)) (by rw [hg2]; decide) ?_
    refine step (v := vb true) (aJ (b := decide ((a0.Init.length : Int) > 4)) rfl hg2 rfl) ?_
    refine q1 _ ?_
    iterate 4 refine qX true (by decide) ?_
    refine step (v := vb true) (aJ (b := true) rfl rfl rfl) ?_
    refine q1 _ ?_
    iterate 4 refine qX true (by decide) ?_
    refine step (v := vb true) (aJ (b := true) rfl rfl rfl) ?_
    have hh := ap hv
    subst hh
    exact nR []
   ·
    replace hv := aH hg2 hv
    obtain ⟨r3, hr3, hv⟩ := aq hv
    refine qG (decide ((a0.Init.length : Int) > 4)) (Bool.eq_false_iff.2 hg2) ?_
    refine q1 _ ?_
    refine qG (decide ((a0.Init.length : Int) > 4)) (Bool.eq_false_iff.2 hg2) ?_
    refine q1 _ ?_
    refine qG (decide ((a0.Init.length : Int) > 4)) (Bool.eq_false_iff.2 hg2) ?_
    refine a9 (r := .int .i64 r3) (aF aL.nil') (vp hr3) ?_
    refine qG (decide ((a0.Init.length : Int) > 4)) (Bool.eq_false_iff.2 hg2) ?_
    refine q1 _ ?_
    refine step (v := vb (decide (r3 > 300))) (aM (b := decide ((a0.Init.length : Int) > 4)) rfl hg2 rfl) ?_
    refine q1 _ ?_
    by_cases hg4 : decide (r3 > 300) = true
    ·
     replace hv := aG hg4 hv
     iterate 4 refine qX (decide (r3 > 300)) (by rw [hg4]; decide) ?_
     refine step (v := vb true) (aJ (b := decide (r3 > 300)) rfl hg4 rfl) ?_
     refine q1 _ ?_
     iterate 4 refine qX true (by decide) ?_
     refine step (v := vb true) (aJ (b := true) rfl rfl rfl) ?_
     have hh := ap hv
     subst hh
     exact nR []
    ·
     replace hv := aH hg4 hv
     obtain ⟨r5, hr5, hv⟩ := aq hv
     refine qG (decide (r3 > 300)) (Bool.eq_false_iff.2 hg4) ?_
     refine q1 _ ?_
     refine qG (decide (r3 > 300)) (Bool.eq_false_iff.2 hg4) ?_
     refine q1 _ ?_
     refine qG (decide (r3 > 300)) (Bool.eq_false_iff.2 hg4) ?_
     refine a9 (r := .int .i64 r5) (aF aL.nil') (vr hr5) ?_
     refine qG (decide (r3 > 300)) (Bool.eq_false_iff.2 hg4) ?_
     refine q1 _ ?_
     refine step (v := vb (decide (r5 > 20))) (aM (b := decide (r3 > 300)) rfl hg4 rfl) ?_
     refine q1 _ ?_
     by_cases hg6 : decide (r5 > 20) = true
     ·
      replace hv := aG hg6 hv
      iterate 4 refine qX (decide (r5 > 20)) (by rw [hg6]; decide) ?_
      refine step (v := vb true) (aJ (b := decide (r5 > 20)) rfl hg6 rfl) ?_
      have hh := ap hv
      subst hh
      exact nR []
     ·
      replace hv := aH hg6 hv
      refine qG (decide (r5 > 20)) (Bool.eq_false_iff.2 hg6) ?_
      refine q1 _ ?_
      refine qG (decide (r5 > 20)) (Bool.eq_false_iff.2 hg6) ?_
      refine q1 _ ?_
      refine qG (decide (r5 > 20)) (Bool.eq_false_iff.2 hg6) ?_
      refine step (v := vi (a0.Rules.length : Int)) (bI (xs := a0.Rules) (e := eO) rfl) ?_
      refine qG (decide (r5 > 20)) (Bool.eq_false_iff.2 hg6) ?_
      refine q1 _ ?_
      refine step (v := vb (decide ((a0.Rules.length : Int) > 24))) (aM (b := decide (r5 > 20)) rfl hg6 rfl) ?_
      have hh := ap hv
      subst hh
      exact nR []
 by_cases hc9 : y7 = true
 ·
  replace h := aG hc9 h
  refine aT (t := y7) rfl hc9 ?_
  refine ak ⟨tab [(2, vi 2)], ac [], 0⟩ ?_ ?_
  ·
   refine q1 _ ?_
   exact nR []
  have hh := ap h
  subst hh
  refine aV ?_
  show FQ _ _ _ _
  exact bh (.inr rfl) (bn (v := vi 2) rfl rfl) (RV.d trivial)
 ·
  replace h := aH hc9 h
  refine aS (t := y7) rfl hc9 ?_
  refine bm ?_
  refine aN ?_
  obtain ⟨r10, hr10, h⟩ := aq h
  refine ak ⟨tab [(1, dw a0), (3, vi (a0.Init.length : Int)), (38, vb (!r10))], ac [], 0⟩ ?_ ?_
  ·
   iterate 3 refine q1 _ ?_
   refine a9 (r := .bool r10) (aF (aF aL.nil')) (vC hr10) ?_
   refine q1 _ ?_
   exact nR []
  by_cases hc11 : (!r10) = true
  ·
   replace h := aG hc11 h
   refine aT (t := (!r10)) rfl hc11 ?_
   refine ak ⟨tab [(2, vi 11)], ac [], 0⟩ ?_ ?_
   ·
    refine q1 _ ?_
    exact nR []
   have hh := ap h
   subst hh
   refine aV ?_
   show FQ _ _ _ _
   exact bh (.inr rfl) (bn (v := vi 11) rfl rfl) (RV.d trivial)
  ·
   replace h := aH hc11 h
   refine aS (t := (!r10)) rfl hc11 ?_
   refine bm ?_
   refine aN ?_
   refine ak ⟨tab [(3, vi (a0.Init.length : Int)), (40, e9 a0.Rules), (41, vi (a0.Rules.length : Int)), (42, vi 0)], ac [], 0⟩ ?_ ?_
   ·
    iterate 2 refine q1 _ ?_
    refine step (v := vi (a0.Rules.length : Int)) (bI (xs := a0.Rules) (e := eO) rfl) ?_
    refine q1 _ ?_
    exact nR []
   obtain ⟨q35, hl, h⟩ := aq h
   refine bE ?_
   refine ey (cK (a0.Rules.length : Int)) (fun (i12 : Int) (qq : Unit) => ⟨tab [(3, vi (a0.Init.length : Int)), (40, e9 a0.Rules), (41, vi (a0.Rules.length : Int)), (42, vi i12)], ac [], 0⟩) 0 (fun (qq : Unit) => ⟨tab [], ac [], 0⟩) bJ cL (r := r) hl (by unfold bJ; omega) ?_ ?_ ?_ ?_
   ·
    rintro i12 ⟨⟩ xr17 hinv15 hgo14 h
    show aP _ _ _ _ _ ⟨tab [(3, vi (a0.Init.length : Int)), (40, e9 a0.Rules), (41, vi (a0.Rules.length : Int)), (42, vi i12)], ac [], 0⟩
    have hc16 : decide (i12 < (a0.Rules.length : Int)) = true := decide_eq_true hgo14
    refine ak ⟨tab [(3, vi (a0.Init.length : Int)), (40, e9 a0.Rules), (41, vi (a0.Rules.length : Int)), (42, vi i12), (43, vb (decide (i12 < (a0.Rules.length : Int))))], ac [], 0⟩ ?_ ?_
    ·
     refine q1 _ ?_
     exact nR []
    refine cJ 41 rfl fun hB13 => ?_
    refine aN ?_
    refine aT (t := decide (i12 < (a0.Rules.length : Int))) rfl hc16 ?_
    refine bm ?_
    refine aN ?_
    refine bE ?_
    obtain ⟨x18, hx18, h⟩ := aq h
    refine ak ⟨tab [(3, vi (a0.Init.length : Int)), (5, .ptr 0 0 0), (40, e9 a0.Rules), (41, vi (a0.Rules.length : Int)), (42, vi i12)], ac [(0, .var [bz x18.When, bz x18.Guard, bz x18.Then])], 1⟩ ?_ ?_
    ·
     refine step (v := .d (.cptr (some 3) (eO x18) 0)) (cZ (xs := a0.Rules) (e := eO) hx18 rfl rfl) ?_
     refine q1 _ ?_
     refine step (v := .ptr 0 0 0) (σ' := (al (ac []) 0 (some (.var [bz [], bz [], bz []])))) (n' := 1) rfl ?_
     refine step (v := V.undef) (σ' := (al (al (ac []) 0 (some (.var [bz [], bz [], bz []]))) 0 (some (.var [bz x18.When, bz x18.Guard, bz x18.Then])))) (n' := 1) rfl ?_
     exact nR [0]
    obtain ⟨y23, hv, h⟩ := aq h
    refine ak ⟨tab [(3, vi (a0.Init.length : Int)), (5, .ptr 0 0 0), (6, vb y23), (40, e9 a0.Rules), (41, vi (a0.Rules.length : Int)), (42, vi i12)], ac [(0, .var [bz x18.When, bz x18.Guard, bz x18.Then])], 1⟩ ?_ ?_
    ·
     iterate 2 refine q1 _ ?_
     refine step (v := vi (x18.When.length : Int)) (bI (xs := x18.When) (e := cx) rfl) ?_
     iterate 2 refine q1 _ ?_
     by_cases hg19 : decide ((x18.When.length : Int) ≥ 2) = true
     ·
      replace hv := aG hg19 hv
      obtain ⟨x20, hx20, hv⟩ := aq hv
      refine qG _ hg19 ?_
      refine q1 _ ?_
      refine qG _ hg19 ?_
      refine q1 _ ?_
      refine qG _ hg19 ?_
      refine step (v := fc x20) (cZ (xs := x18.When) (e := cx) hx20 rfl rfl) ?_
      refine qG _ hg19 ?_
      refine q1 _ ?_
      refine qG _ hg19 ?_
      refine q1 _ ?_
      refine qG _ hg19 ?_
      refine q1 _ ?_
      refine step (v := vb (x20.F == 0)) (aJ (b := decide ((x18.When.length : Int) ≥ 2)) rfl hg19 rfl) ?_
      refine q1 _ ?_
      by_cases hg21 : (x20.F == 0) = true
      ·
       replace hv := aG hg21 hv
       obtain ⟨x22, hx22, hv⟩ := aq hv
       refine qG _ hg21 ?_
       refine q1 _ ?_
       refine qG _ hg21 ?_
       refine q1 _ ?_
       refine qG _ hg21 ?_
       refine step (v := fc x22) (cZ (xs := x18.When) (e := cx) hx22 rfl rfl) ?_
       refine qG _ hg21 ?_
       refine q1 _ ?_
       refine qG _ hg21 ?_
       refine q1 _ ?_
       refine qG _ hg21 ?_
       refine q1 _ ?_
       refine step (v := vb (x22.F == 1)) (aJ (b := (x20.F == 0)) rfl hg21 rfl) ?_
       refine q1 _ ?_
       have hh := ap hv
       subst hh
       exact nR [0]
      ·
       replace hv := aH hg21 hv
       iterate 6 refine qX _ hg21 ?_
       refine step (v := vb false) (aM (b := (x20.F == 0)) rfl hg21 rfl) ?_
       refine q1 _ ?_
       have hh := ap hv
       subst hh
       exact nR [0]
     ·
      replace hv := aH hg19 hv
      iterate 6 refine qX _ hg19 ?_
      refine step (v := vb false) (aM (b := decide ((x18.When.length : Int) ≥ 2)) rfl hg19 rfl) ?_
      refine q1 _ ?_
      iterate 6 refine qX false (by decide) ?_
      refine step (v := vb false) (aM (b := false) rfl (by decide) rfl) ?_
      refine q1 _ ?_
      have hh := ap hv
      subst hh
      exact nR [0]
    obtain ⟨y32, hv, h⟩ := aq h
    refine ak ⟨tab [(3, vi (a0.Init.length : Int)), (40, e9 a0.Rules), (41, vi (a0.Rules.length : Int)), (42, vi i12), (93, vb y32)], ac [], 0⟩ ?_ ?_
    ·
     iterate 3 refine q1 _ ?_
     by_cases hg25 : (!y23) = true
     ·
      replace hv := aG hg25 hv
      iterate 4 refine qX (!y23) (by rw [hg25]; decide) ?_
      refine step (v := vb true) (aJ (b := (!y23)) rfl hg25 rfl) ?_
      refine q1 _ ?_
      iterate 5 refine qX true (by decide) ?_
      refine step (v := vb true) (aJ (b := true) rfl rfl rfl) ?_
      refine q1 _ ?_
      iterate 5 refine qX true (by decide) ?_
      refine step (v := vb true) (aJ (b := true) rfl rfl rfl) ?_
      refine q1 _ ?_
      iterate 4 refine qX true (by decide) ?_
      refine step (v := vb true) (aJ (b := true) rfl rfl rfl) ?_
      have hh := ap hv
      subst hh
      exact nR []
     ·
      replace hv := aH hg25 hv
      obtain ⟨r26, hr26, hv⟩ := aq hv
      refine qG (!y23) (Bool.eq_false_iff.2 hg25) ?_
      refine q1 _ ?_
      refine qG (!y23) (Bool.eq_false_iff.2 hg25) ?_
      refine q1 _ ?_
      refine qG (!y23) (Bool.eq_false_iff.2 hg25) ?_
      refine a9 (r := .bool r26) (aF (aF aL.nil')) (md hr26) ?_
      refine qG (!y23) (Bool.eq_false_iff.2 hg25) ?_
      refine q1 _ ?_
      refine step (v := vb (!r26)) (aM (b := (!y23)) rfl hg25 rfl) ?_
      refine q1 _ ?_
      by_cases hg27 : (!r26) = true
      ·
       replace hv := aG hg27 hv
       iterate 5 refine qX (!r26) (by rw [hg27]; decide) ?_
       refine step (v := vb true) (aJ (b := (!r26)) rfl hg27 rfl) ?_
       refine q1 _ ?_
       iterate 5 refine qX true (by decide) ?_
       refine step (v := vb true) (aJ (b := true) rfl rfl rfl) ?_
       refine q1 _ ?_
       iterate 4 refine qX true (by decide) ?_
       refine step (v := vb true) (aJ (b := true) rfl rfl rfl) ?_
       have hh := ap hv
       subst hh
       exact nR []
      ·
       replace hv := aH hg27 hv
       obtain ⟨r28, hr28, hv⟩ := aq hv
       refine qG (!r26) (Bool.eq_false_iff.2 hg27) ?_
       refine q1 _ ?_
       refine qG (!r26) (Bool.eq_false_iff.2 hg27) ?_
       refine q1 _ ?_
       refine qG (!r26) (Bool.eq_false_iff.2 hg27) ?_
       refine q1 _ ?_
       refine qG (!r26) (Bool.eq_false_iff.2 hg27) ?_
       refine a9 (r := .bool r28) (aF (aF aL.nil')) (md hr28) ?_
       refine qG (!r26) (Bool.eq_false_iff.2 hg27) ?_
       refine q1 _ ?_
       refine step (v := vb (!r28)) (aM (b := (!r26)) rfl hg27 rfl) ?_
       refine q1 _ ?_
       by_cases hg29 : (!r28) = true
       ·
        replace hv := aG hg29 hv
        iterate 5 refine qX (!r28) (by rw [hg29]; decide) ?_
        refine step (v := vb true) (aJ (b := (!r28)) rfl hg29 rfl) ?_
        refine q1 _ ?_
        iterate 4 refine qX true (by decide) ?_
        refine step (v := vb true) (aJ (b := true) rfl rfl rfl) ?_
        have hh := ap hv
        subst hh
        exact nR []
       ·
        replace hv := aH hg29 hv
        obtain ⟨r30, hr30, hv⟩ := aq hv
        refine qG (!r28) (Bool.eq_false_iff.2 hg29) ?_
        refine q1 _ ?_
        refine qG (!r28) (Bool.eq_false_iff.2 hg29) ?_
        refine q1 _ ?_
        refine qG (!r28) (Bool.eq_false_iff.2 hg29) ?_
        refine q1 _ ?_
        refine qG (!r28) (Bool.eq_false_iff.2 hg29) ?_
        refine a9 (r := .bool r30) (aF (aF aL.nil')) (md hr30) ?_
        refine qG (!r28) (Bool.eq_false_iff.2 hg29) ?_
        refine q1 _ ?_
        refine step (v := vb (!r30)) (aM (b := (!r28)) rfl hg29 rfl) ?_
        refine q1 _ ?_
        by_cases hg31 : (!r30) = true
        ·
         replace hv := aG hg31 hv
         iterate 4 refine qX (!r30) (by rw [hg31]; decide) ?_
         refine step (v := vb true) (aJ (b := (!r30)) rfl hg31 rfl) ?_
         have hh := ap hv
         subst hh
         exact nR []
        ·
         replace hv := aH hg31 hv
         refine qG (!r30) (Bool.eq_false_iff.2 hg31) ?_
         refine q1 _ ?_
         refine qG (!r30) (Bool.eq_false_iff.2 hg31) ?_
         refine q1 _ ?_
         refine qG (!r30) (Bool.eq_false_iff.2 hg31) ?_
         refine step (v := vi (x18.Then.length : Int)) (bI (xs := x18.Then) (e := cx) rfl) ?_
         refine qG (!r30) (Bool.eq_false_iff.2 hg31) ?_
         refine q1 _ ?_
         refine step (v := vb ((x18.Then.length : Int) == 0)) (aM (b := (!r30)) rfl hg31 rfl) ?_
         have hh := ap hv
         subst hh
         exact nR []
    by_cases hc34 : y32 = true
    ·
     replace h := aG hc34 h
     refine aT (t := y32) rfl hc34 ?_
     refine ak ⟨tab [(2, vi 11)], ac [], 0⟩ ?_ ?_
     ·
      refine q1 _ ?_
      exact nR []
     obtain ⟨r35, kr35, hr⟩ := c5 (o := some 11) (g := Br.ret) h
     subst hr
     have h := kr35
     have hh := ap h
     subst hh
     refine aV ?_
     refine And.intro (fun hn => nomatch hn) ?_
     intro hq
     have hq := hq.symm
     subst hq
     show FQ _ _ _ _
     exact bh (.inr rfl) (bn (v := vi 11) rfl rfl) (RV.d trivial)
    ·
     replace h := aH hc34 h
     refine aS (t := y32) rfl hc34 ?_
     refine bm ?_
     have hh := ap h
     subst hh
     refine bN ⟨tab [(3, vi (a0.Init.length : Int)), (40, e9 a0.Rules), (41, vi (a0.Rules.length : Int)), (42, vi (i12 + 1))], ac [], 0⟩ ?_ ?_
     ·
      refine step (v := vi (i12 + 1)) (cM (cN hinv15 hgo14 hB13) rfl rfl) ?_
      refine q1 _ ?_
      exact nR []
     exact And.intro rfl rfl
   ·
    rintro i12 ⟨⟩ hinv15 hgo14
    show aP _ _ _ _ _ ⟨tab [(3, vi (a0.Init.length : Int)), (40, e9 a0.Rules), (41, vi (a0.Rules.length : Int)), (42, vi i12)], ac [], 0⟩
    have hc16 : ¬ (decide (i12 < (a0.Rules.length : Int)) = true) := fun hq => hgo14 (of_decide_eq_true hq)
    refine ak ⟨tab [(3, vi (a0.Init.length : Int)), (40, e9 a0.Rules), (41, vi (a0.Rules.length : Int)), (42, vi i12), (43, vb (decide (i12 < (a0.Rules.length : Int))))], ac [], 0⟩ ?_ ?_
    ·
     refine q1 _ ?_
     exact nR []
    refine aN ?_
    refine aS (t := decide (i12 < (a0.Rules.length : Int))) rfl hc16 ?_
    refine aX (s0 := ⟨tab [], ac [], 0⟩) (nr []) ?_
    refine cz ?_
    exact And.intro rfl rfl
   ·
    intro r' hq
    subst hq
    exact ap h
   rintro ⟨⟩ rfl
   refine ak ⟨tab [(2, vi 0)], ac [], 0⟩ ?_ ?_
   ·
    refine q1 _ ?_
    exact nR []
   have hh := ap h
   subst hh
   refine aV ?_
   show FQ _ _ _ _
   exact bh (.inr rfl) (bn (v := vi 0) rfl rfl) (RV.d trivial)
theorem hY {a0 : Bool} {a1 : (A8 Int)} {r : (List (A8 Int))} (h : fI a0 a1 = some r) : PCall Try.prog 77 [.bool a0, eA8 (D.int .u16) a1] (eL (some 8) (eA8 (D.int .u16)) r) := by
 refine PCall.introN tQ (show 2 ≤ 9 by decide) ?_
 refine aX (s0 := ⟨tab [(0, vb a0), (1, .d (eA8 (D.int .u16) a1))], ac [], 0⟩) (nr []) ?_
 refine ak ⟨tab [(0, vb a0), (3, .d (.cptr (some 8) (eA8 (D.int .u16) a1) 0))], ac [], 0⟩ ?_ ?_
 ·
  iterate 2 refine q1 _ ?_
  exact nR []
 refine aN ?_
 refine ak ⟨tab [(3, .d (.cptr (some 8) (eA8 (D.int .u16) a1) 0)), (6, vb (!a0))], ac [], 0⟩ ?_ ?_
 ·
  iterate 2 refine q1 _ ?_
  exact nR []
 by_cases hc1 : (!a0) = true
 ·
  replace h := aG hc1 h
  refine aT (t := (!a0)) rfl hc1 ?_
  refine ak ⟨tab [(4, .d (eL (some 8) (eA8 (D.int .u16)) ([] : List (A8 Int))))], ac [], 0⟩ ?_ ?_
  ·
   refine q1 _ ?_
   exact nR []
  have hh := ap h
  subst hh
  refine aV ?_
  show FQ _ _ _ _
  exact bh (.inr rfl) (bn (v := .d (eL (some 8) (eA8 (D.int .u16)) ([] : List (A8 Int)))) rfl rfl) (RV.d trivial)
 ·
  replace h := aH hc1 h
  refine aS (t := (!a0)) rfl hc1 ?_
  refine bm ?_
  refine ak ⟨tab [(4, .d (eL (some 8) (eA8 (D.int .u16)) ([a1] : List (A8 Int))))], ac [], 0⟩ ?_ ?_
  ·
   iterate 3 refine q1 _ ?_
   exact nR []
  have hh := ap h
  subst hh
  refine aV ?_
  show FQ _ _ _ _
  exact bh (.inr rfl) (bn (v := .d (eL (some 8) (eA8 (D.int .u16)) ([a1] : List (A8 Int)))) rfl rfl) (RV.d trivial)
theorem vE {a0 : (List Int)} {a1 : aj} {r : Bool} (h : fJ a0 a1 = some r) : PCall Try.prog 54 [eL none (D.int .u16) a0, bo a1] (.bool r) := by
 refine PCall.introN tS (show 2 ≤ 25 by decide) ?_
 refine aX (s0 := ⟨tab [(0, bp a0), (1, vs1 a1)], ac [], 0⟩) (nr []) ?_
 refine ak ⟨tab [(0, bp a0), (3, aI a1)], ac [], 0⟩ ?_ ?_
 ·
  iterate 2 refine q1 _ ?_
  exact nR []
 obtain ⟨y4, hv, h⟩ := aq h
 refine ak ⟨tab [(4, vb y4)], ac [], 0⟩ ?_ ?_
 ·
  iterate 4 refine q1 _ ?_
  by_cases hg1 : decide (a1.F ≥ 0) = true
  ·
   replace hv := aG hg1 hv
   refine qG _ hg1 ?_
   refine q1 _ ?_
   refine qG _ hg1 ?_
   refine q1 _ ?_
   refine qG _ hg1 ?_
   refine q1 _ ?_
   refine qG _ hg1 ?_
   refine step (v := vi (a0.length : Int)) (bI (xs := a0) (e := (D.int .u16)) rfl) ?_
   refine qG _ hg1 ?_
   refine q1 _ ?_
   refine step (v := vb (decide (a1.F < (a0.length : Int)))) (aJ (b := decide (a1.F ≥ 0)) rfl hg1 rfl) ?_
   refine q1 _ ?_
   by_cases hg2 : decide (a1.F < (a0.length : Int)) = true
   ·
    replace hv := aG hg2 hv
    obtain ⟨x3, hx3, hv⟩ := aq hv
    refine qG _ hg2 ?_
    refine q1 _ ?_
    refine qG _ hg2 ?_
    refine q1 _ ?_
    refine qG _ hg2 ?_
    refine q1 _ ?_
    refine qG _ hg2 ?_
    refine step (v := .d (.cptr none (.int .u16 x3) 0)) (cZ (xs := a0) (e := (D.int .u16)) hx3 rfl rfl) ?_
    refine qG _ hg2 ?_
    refine q1 _ ?_
    refine qG _ hg2 ?_
    refine q1 _ ?_
    refine qG _ hg2 ?_
    refine q1 _ ?_
    refine qG _ hg2 ?_
    refine q1 _ ?_
    refine step (v := vb (x3 == a1.N)) (aJ (b := decide (a1.F < (a0.length : Int))) rfl hg2 rfl) ?_
    refine q1 _ ?_
    have hh := ap hv
    subst hh
    exact nR []
   ·
    replace hv := aH hg2 hv
    iterate 8 refine qX _ hg2 ?_
    refine step (v := vb false) (aM (b := decide (a1.F < (a0.length : Int))) rfl hg2 rfl) ?_
    refine q1 _ ?_
    have hh := ap hv
    subst hh
    exact nR []
  ·
   replace hv := aH hg1 hv
   iterate 5 refine qX _ hg1 ?_
   refine step (v := vb false) (aM (b := decide (a1.F ≥ 0)) rfl hg1 rfl) ?_
   refine q1 _ ?_
   iterate 8 refine qX false (by decide) ?_
   refine step (v := vb false) (aM (b := false) rfl (by decide) rfl) ?_
   refine q1 _ ?_
   have hh := ap hv
   subst hh
   exact nR []
 have hh := ap h
 subst hh
 refine aV ?_
 show FQ _ _ _ _
 exact bh (.inr rfl) (bn (v := vb y4) rfl rfl) (RV.d trivial)
theorem vF {a0 : Int} {r : Bool} (h : om a0 = some r) : PCall Try.prog 100 [.int .i64 a0] (.bool r) := by
 refine PCall.introN tU (show 1 ≤ 9 by decide) ?_
 refine aX (s0 := ⟨tab [(0, vi a0)], ac [], 0⟩) (nr []) ?_
 refine ak ⟨tab [(0, vi a0)], ac [], 0⟩ ?_ ?_
 ·
  refine q1 _ ?_
  exact nR []
 refine ak ⟨tab [(2, vb ((decide (a0 ≥ 0)) && (decide (a0 < 8))))], ac [], 0⟩ ?_ ?_
 ·
  iterate 3 refine q1 _ ?_
  by_cases hg1 : decide (a0 ≥ 0) = true
  ·
   refine qG _ hg1 ?_
   refine q1 _ ?_
   refine qG _ hg1 ?_
   refine q1 _ ?_
   refine step (v := vb (decide (a0 < 8))) (aJ (b := decide (a0 ≥ 0)) rfl hg1 rfl) ?_
   refine q1 _ ?_
   exact aU.nil' (nm [] ⟨.eq (by first | (simp [hg1]; done) | (simp_all; done) | grind), trivial⟩ trivial)
  ·
   iterate 2 refine qX _ hg1 ?_
   refine step (v := vb false) (aM (b := decide (a0 ≥ 0)) rfl hg1 rfl) ?_
   refine q1 _ ?_
   exact aU.nil' (nm [] ⟨.eq (by first | (simp [hg1]; done) | (simp_all; done) | grind), trivial⟩ trivial)
 have hh := ap h
 subst hh
 refine aV ?_
 show FQ _ _ _ _
 exact bh (.inr rfl) (bn (v := vb ((decide (a0 ≥ 0)) && (decide (a0 < 8)))) rfl rfl) (RV.d trivial)
theorem vG {a0 : (A8 Int)} {a1 : Int} {a2 : Int} {r : (A8 Int)} (h : ot a0 a1 a2 = some r) : PCall Try.prog 78 [eA8 (D.int .u16) a0, .int .i64 a1, .int .u16 a2] (eA8 (D.int .u16) r) := by
 refine PCall.introN tW (show 3 ≤ 13 by decide) ?_
 refine aX (s0 := ⟨tab [(0, .d (eA8 (D.int .u16) a0)), (1, vi a1), (2, vh a2)], ac [], 0⟩) (nr []) ?_
 refine ak ⟨tab [(1, vi a1), (2, vh a2), (3, .ptr 0 0 0), (6, .ptr 1 0 0)], ac [(0, .var [vh a0.a0, vh a0.a1, vh a0.a2, vh a0.a3, vh a0.a4, vh a0.a5, vh a0.a6, vh a0.a7]), (1, fd)], 2⟩ ?_ ?_
 ·
  refine step (v := .ptr 0 0 0) (σ' := (al (ac []) 0 (some (.var [vh a0.a0, vh a0.a1, vh a0.a2, vh a0.a3, vh a0.a4, vh a0.a5, vh a0.a6, vh a0.a7])))) (n' := 1) rfl ?_
  refine step (v := .ptr 1 0 0) (σ' := (al (al (ac []) 0 (some (.var [vh a0.a0, vh a0.a1, vh a0.a2, vh a0.a3, vh a0.a4, vh a0.a5, vh a0.a6, vh a0.a7]))) 1 (some (fd)))) (n' := 2) rfl ?_
  exact nR [0, 1]
 obtain ⟨y5, hv, h⟩ := aq h
 refine ex ⟨tab [(3, .ptr 0 0 0), (6, .ptr 1 0 0)], ac [(0, .var [vh y5.a0, vh y5.a1, vh y5.a2, vh y5.a3, vh y5.a4, vh y5.a5, vh y5.a6, vh y5.a7]), (1, fd)], 2⟩ ?_ ?_
 ·
  replace h := hv
  obtain ⟨r1, hr1, h⟩ := aq h
  refine ak ⟨tab [(1, vi a1), (2, vh a2), (3, .ptr 0 0 0), (6, .ptr 1 0 0), (8, vb r1)], ac [(0, .var [vh a0.a0, vh a0.a1, vh a0.a2, vh a0.a3, vh a0.a4, vh a0.a5, vh a0.a6, vh a0.a7]), (1, fd)], 2⟩ ?_ ?_
  ·
   refine q1 _ ?_
   refine a9 (r := .bool r1) (aF aL.nil') (vF hr1) ?_
   exact nR [0, 1]
  by_cases hc2 : r1 = true
  ·
   replace h := aG hc2 h
   refine aT (t := r1) rfl hc2 ?_
   obtain ⟨x3, hx3, h⟩ := aq h
   obtain ⟨x4, hx4, h⟩ := aq h
   have hh := ap h
   subst hh
   refine bN ⟨tab [(3, .ptr 0 0 0), (6, .ptr 1 0 0)], ac [(0, .var [vh x4.a0, vh x4.a1, vh x4.a2, vh x4.a3, vh x4.a4, vh x4.a5, vh x4.a6, vh x4.a7]), (1, fd)], 2⟩ ?_ ?_
   ·
    iterate 2 refine q1 _ ?_
    refine step (v := .ptr 0 0 (0 + a1.toNat * 1)) (rW (xs := a0.l) hx3 rfl rfl rfl) ?_
    refine step (v := V.undef) (σ' := (al (ac [(0, .var [vh a0.a0, vh a0.a1, vh a0.a2, vh a0.a3, vh a0.a4, vh a0.a5, vh a0.a6, vh a0.a7]), (1, fd)]) 0 (some (.var [vh x4.a0, vh x4.a1, vh x4.a2, vh x4.a3, vh x4.a4, vh x4.a5, vh x4.a6, vh x4.a7])))) (n' := 2) (rX (e := (D.int .u16)) (xs := a0.l) (xs' := x4.l) (pre := []) (post := []) (A8.put_l hx4) rfl rfl rfl rfl rfl rfl) ?_
    exact nR [0, 1]
   exact And.intro rfl rfl
  ·
   replace h := aH hc2 h
   refine aS (t := r1) rfl hc2 ?_
   have hh := ap h
   subst hh
   refine aX (s0 := ⟨tab [(3, .ptr 0 0 0), (6, .ptr 1 0 0)], ac [(0, .var [vh a0.a0, vh a0.a1, vh a0.a2, vh a0.a3, vh a0.a4, vh a0.a5, vh a0.a6, vh a0.a7]), (1, fd)], 2⟩) (nr [0, 1]) ?_
   refine bm ?_
   exact And.intro rfl rfl
 refine ak ⟨tab [(6, .ptr 0 0 0)], ac [(0, .var [vh y5.a0, vh y5.a1, vh y5.a2, vh y5.a3, vh y5.a4, vh y5.a5, vh y5.a6, vh y5.a7])], 1⟩ ?_ ?_
 ·
  refine step (v := .d (eA8 (D.int .u16) y5)) (bS (ds := [.int .u16 y5.a0, .int .u16 y5.a1, .int .u16 y5.a2, .int .u16 y5.a3, .int .u16 y5.a4, .int .u16 y5.a5, .int .u16 y5.a6, .int .u16 y5.a7]) rfl rfl (show 8 ≤ 8 by decide) rfl) ?_
  refine step (v := V.undef) (σ' := (al (ac [(0, .var [vh y5.a0, vh y5.a1, vh y5.a2, vh y5.a3, vh y5.a4, vh y5.a5, vh y5.a6, vh y5.a7]), (1, fd)]) 1 (some (.var [vh y5.a0, vh y5.a1, vh y5.a2, vh y5.a3, vh y5.a4, vh y5.a5, vh y5.a6, vh y5.a7])))) (n' := 2) rfl ?_
  exact nR [1]
 have hh := ap h
 subst hh
 refine aV ?_
 show FQ _ _ _ _
 exact bh (.inr rfl) (gl (ds := [.int .u16 y5.a0, .int .u16 y5.a1, .int .u16 y5.a2, .int .u16 y5.a3, .int .u16 y5.a4, .int .u16 y5.a5, .int .u16 y5.a6, .int .u16 y5.a7]) rfl rfl (show 8 ≤ 8 by decide) rfl rfl) (RV.d trivial)
theorem vH {a0 : List (A8 Int)} {r : List (A8 Int)} (h : gX a0 = some r) : b4 Try.prog 93 [.d (.vec (some 8) (List.map (eA8 (D.int .u16)) a0))] (ac []) 0 (.loc 0 0 r.length) (ac [(0, .lst true (some 8) (List.map (eA8 (D.int .u16)) r))]) 1 := by
 cases a0 with
 | nil =>
  refine b4.empty ?_ ?_
  ·
   have h : some ([] : List (A8 Int)) = some r := by simpa [gX, cS] using h
   refine b4.introN (bl := []) (bl' := [(0, .lst true (some 8) (List.map (eA8 (D.int .u16)) r))]) mc (show 1 ≤ 8 by decide) rfl ?_
   refine aX (s0 := ⟨tab [(0, .d (.nils))], ac [], 0⟩) (nr []) ?_
   refine ak ⟨tab [(0, .d (.nils))], ac [], 0⟩ ?_ ?_
   ·
    refine q1 _ ?_
    exact nR []
   refine aN ?_
   refine ak ⟨tab [(0, .d (.nils)), (4, vb true)], ac [], 0⟩ ?_ ?_
   ·
    iterate 2 refine q1 _ ?_
    exact nR []
   refine aT (t := true) rfl rfl ?_
   refine ak ⟨tab [(2, .d (.nils))], ac [], 0⟩ ?_ ?_
   ·
    refine q1 _ ?_
    exact nR []
   have hh := ap h
   subst hh
   refine aX (s0 := ⟨tab [(2, .loc 0 0 (([] : List (A8 Int)).length))], ac [(0, .lst true (some 8) (List.map (eA8 (D.int .u16)) ([] : List (A8 Int))))], 1⟩) (bU.trans (s2 := ⟨tab [(2, .loc 0 0 (([] : List (A8 Int)).length))], ac [(0, .lst true (some 8) (List.map (eA8 (D.int .u16)) ([] : List (A8 Int))))], 1⟩) (jD 2 true (some 8) rfl) (nr [0])) ?_
   refine aV ?_
   exact ⟨.inr rfl, _, rfl, rfl, dp.sub ⟨rfl, trivial⟩, rfl⟩
  ·
   refine b4.introN (bl := []) (bl' := [(0, .lst true (some 8) (List.map (eA8 (D.int .u16)) r))]) mc (show 1 ≤ 8 by decide) rfl ?_
   refine aX (s0 := ⟨tab [(0, .mapr 0)], ac [], 0⟩) (nm [] ⟨.mp _, trivial⟩ trivial) ?_
   refine ak ⟨tab [(0, .mapr 0)], ac [], 0⟩ ?_ ?_
   ·
    refine q1 _ ?_
    exact aU.nil' (nm [] ⟨.mp _, trivial⟩ trivial)
   refine aN ?_
   refine ak ⟨tab [(0, .d (eL (some 8) (eA8 (D.int .u16)) ([] : List (A8 Int)))), (4, vb false)], ac [], 0⟩ ?_ ?_
   ·
    iterate 2 refine q1 _ ?_
    exact aU.nil' (nm [] ⟨.nne _ _, .d _, trivial⟩ trivial)
   refine aS (t := false) rfl (by decide) ?_
   refine bm ?_
   obtain ⟨l1, hl1, h⟩ := aq h
   refine ak ⟨tab [(2, .loc 0 0 l1.length)], ac [(0, .lst true (some 8) (List.map (eA8 (D.int .u16)) l1))], 1⟩ ?_ ?_
   ·
    refine step (v := .loc 0 0 (([] : List (A8 Int)).length)) (σ' := (al (ac []) 0 (some (.lst true (some 8) (List.map (eA8 (D.int .u16)) ([] : List (A8 Int))))))) (n' := 1) rfl ?_
    refine q1 _ ?_
    refine step (v := .loc 1 0 l1.length) (σ' := (al (al (al (ac []) 0 (some (.lst true (some 8) (List.map (eA8 (D.int .u16)) ([] : List (A8 Int)))))) 0 none) 1 (some (.lst true (some 8) (List.map (eA8 (D.int .u16)) l1))))) (n' := 2) (gj (xs := ([] : List (A8 Int))) (ys := ([] : List (A8 Int))) (e := (eA8 (D.int .u16))) hl1 rfl rfl rfl (gR (xs := ([] : List (A8 Int))) (e := (eA8 (D.int .u16))) rfl)) ?_
    refine q1 _ ?_
    exact nR [1]
   have hh := ap h
   subst hh
   refine aV ?_
   exact ⟨.inr rfl, _, rfl, rfl, dp.sub ⟨rfl, trivial⟩, rfl⟩
 | cons x xs =>
  refine b4.introN (bl := []) (bl' := [(0, .lst true (some 8) (List.map (eA8 (D.int .u16)) r))]) mc (show 1 ≤ 8 by decide) rfl ?_
  refine aX (s0 := ⟨tab [(0, .d (eL (some 8) (eA8 (D.int .u16)) (x :: xs)))], ac [], 0⟩) (nr []) ?_
  refine ak ⟨tab [(0, .d (eL (some 8) (eA8 (D.int .u16)) (x :: xs)))], ac [], 0⟩ ?_ ?_
  ·
   refine q1 _ ?_
   exact nR []
  refine aN ?_
  refine ak ⟨tab [(0, .d (eL (some 8) (eA8 (D.int .u16)) (x :: xs))), (4, vb false)], ac [], 0⟩ ?_ ?_
  ·
   iterate 2 refine q1 _ ?_
   exact nR []
  refine aS (t := false) rfl (by decide) ?_
  refine bm ?_
  obtain ⟨l1, hl1, h⟩ := aq h
  refine ak ⟨tab [(2, .loc 0 0 l1.length)], ac [(0, .lst true (some 8) (List.map (eA8 (D.int .u16)) l1))], 1⟩ ?_ ?_
  ·
   refine step (v := .loc 0 0 (([] : List (A8 Int)).length)) (σ' := (al (ac []) 0 (some (.lst true (some 8) (List.map (eA8 (D.int .u16)) ([] : List (A8 Int))))))) (n' := 1) rfl ?_
   refine q1 _ ?_
   refine step (v := .loc 1 0 l1.length) (σ' := (al (al (al (ac []) 0 (some (.lst true (some 8) (List.map (eA8 (D.int .u16)) ([] : List (A8 Int)))))) 0 none) 1 (some (.lst true (some 8) (List.map (eA8 (D.int .u16)) l1))))) (n' := 2) (gj (xs := ([] : List (A8 Int))) (ys := (x :: xs)) (e := (eA8 (D.int .u16))) hl1 rfl rfl rfl (gR (xs := (x :: xs)) (e := (eA8 (D.int .u16))) rfl)) ?_
   refine q1 _ ?_
   exact nR [1]
  have hh := ap h
  subst hh
  refine aV ?_
  exact ⟨.inr rfl, _, rfl, rfl, dp.sub ⟨rfl, trivial⟩, rfl⟩
theorem vI {a0 : Int} {r : Int} (h : ou a0 = some r) : PCall Try.prog 135 [.int .u64 a0] (.int .i64 r) := by
 refine PCall.introN tZ (show 1 ≤ 25 by decide) ?_
 refine aX (s0 := ⟨tab [(0, .d (.int .u64 a0))], ac [], 0⟩) (nr []) ?_
 refine ak ⟨tab [(0, .d (.int .u64 a0)), (2, vi 0)], ac [], 0⟩ ?_ ?_
 ·
  refine q1 _ ?_
  exact nR []
 obtain ⟨q4, hv, h⟩ := aq h
 obtain ⟨y2, y3⟩ := q4
 refine ex ⟨tab [(0, .d (.int .u64 y2)), (2, vi y3)], ac [], 0⟩ ?_ ?_
 ·
  replace h := hv
  refine ak ⟨tab [(0, .d (.int .u64 a0)), (2, vi 0), (4, vb (decide (a0 ≥ 4294967296)))], ac [], 0⟩ ?_ ?_
  ·
   iterate 2 refine q1 _ ?_
   exact nR []
  by_cases hc1 : decide (a0 ≥ 4294967296) = true
  ·
   replace h := aG hc1 h
   refine aT (t := decide (a0 ≥ 4294967296)) rfl hc1 ?_
   refine ak ⟨tab [(0, .d (.int .u64 (a0.fdiv (2 ^ 32))))], ac [], 0⟩ ?_ ?_
   ·
    iterate 3 refine q1 _ ?_
    exact nR []
   have hh := ap h
   obtain ⟨he0, ht0⟩ := Prod.mk.inj hh
   subst he0
   subst ht0
   refine bN ⟨tab [(0, .d (.int .u64 (a0.fdiv (2 ^ 32)))), (2, vi 32)], ac [], 0⟩ ?_ ?_
   ·
    refine q1 _ ?_
    exact nR []
   exact And.intro rfl rfl
  ·
   replace h := aH hc1 h
   refine aS (t := decide (a0 ≥ 4294967296)) rfl hc1 ?_
   have hh := ap h
   obtain ⟨he0, ht0⟩ := Prod.mk.inj hh
   subst he0
   subst ht0
   refine aX (s0 := ⟨tab [(0, .d (.int .u64 a0)), (2, vi 0)], ac [], 0⟩) (nr []) ?_
   refine bm ?_
   exact And.intro rfl rfl
 obtain ⟨q8, hv, h⟩ := aq h
 obtain ⟨y6, y7⟩ := q8
 refine ex ⟨tab [(0, .d (.int .u64 y6)), (2, vi y7)], ac [], 0⟩ ?_ ?_
 ·
  replace h := hv
  refine ak ⟨tab [(0, .d (.int .u64 y2)), (2, vi y3), (8, vb (decide (y2 ≥ 65536)))], ac [], 0⟩ ?_ ?_
  ·
   iterate 2 refine q1 _ ?_
   exact nR []
  by_cases hc5 : decide (y2 ≥ 65536) = true
  ·
   replace h := aG hc5 h
   refine aT (t := decide (y2 ≥ 65536)) rfl hc5 ?_
   refine ak ⟨tab [(0, .d (.int .u64 (y2.fdiv (2 ^ 16)))), (2, vi y3)], ac [], 0⟩ ?_ ?_
   ·
    iterate 3 refine q1 _ ?_
    exact nR []
   have hh := ap h
   obtain ⟨he0, ht0⟩ := Prod.mk.inj hh
   subst he0
   subst ht0
   refine bN ⟨tab [(0, .d (.int .u64 (y2.fdiv (2 ^ 16)))), (2, vi (IntKind.i64.wrap (y3 + 16)))], ac [], 0⟩ ?_ ?_
   ·
    iterate 3 refine q1 _ ?_
    exact nR []
   exact And.intro rfl rfl
  ·
   replace h := aH hc5 h
   refine aS (t := decide (y2 ≥ 65536)) rfl hc5 ?_
   have hh := ap h
   obtain ⟨he0, ht0⟩ := Prod.mk.inj hh
   subst he0
   subst ht0
   refine aX (s0 := ⟨tab [(0, .d (.int .u64 y2)), (2, vi y3)], ac [], 0⟩) (nr []) ?_
   refine bm ?_
   exact And.intro rfl rfl
 obtain ⟨q12, hv, h⟩ := aq h
 obtain ⟨y10, y11⟩ := q12
 refine ex ⟨tab [(0, .d (.int .u64 y10)), (2, vi y11)], ac [], 0⟩ ?_ ?_
 ·
  replace h := hv
  refine ak ⟨tab [(0, .d (.int .u64 y6)), (2, vi y7), (14, vb (decide (y6 ≥ 256)))], ac [], 0⟩ ?_ ?_
  ·
   iterate 2 refine q1 _ ?_
   exact nR []
  by_cases hc9 : decide (y6 ≥ 256) = true
  ·
   replace h := aG hc9 h
   refine aT (t := decide (y6 ≥ 256)) rfl hc9 ?_
   refine ak ⟨tab [(0, .d (.int .u64 (y6.fdiv (2 ^ 8)))), (2, vi y7)], ac [], 0⟩ ?_ ?_
   ·
    iterate 3 refine q1 _ ?_
    exact nR []
   have hh := ap h
   obtain ⟨he0, ht0⟩ := Prod.mk.inj hh
   subst he0
   subst ht0
   refine bN ⟨tab [(0, .d (.int .u64 (y6.fdiv (2 ^ 8)))), (2, vi (IntKind.i64.wrap (y7 + 8)))], ac [], 0⟩ ?_ ?_
   ·
    iterate 3 refine q1 _ ?_
    exact nR []
   exact And.intro rfl rfl
  ·
   replace h := aH hc9 h
   refine aS (t := decide (y6 ≥ 256)) rfl hc9 ?_
   have hh := ap h
   obtain ⟨he0, ht0⟩ := Prod.mk.inj hh
   subst he0
   subst ht0
   refine aX (s0 := ⟨tab [(0, .d (.int .u64 y6)), (2, vi y7)], ac [], 0⟩) (nr []) ?_
   refine bm ?_
   exact And.intro rfl rfl
 obtain ⟨b13, hb13, h⟩ := aq h
 refine ak ⟨tab [(2, vi (IntKind.i64.wrap (y11 + (IntKind.i64.wrap b13))))], ac [], 0⟩ ?_ ?_
 ·
  iterate 3 refine q1 _ ?_
  refine step (v := v8 b13) (rN hb13 rfl rfl) ?_
  iterate 3 refine q1 _ ?_
  exact nR []
 have hh := ap h
 subst hh
 refine aV ?_
 show FQ _ _ _ _
 exact bh (.inr rfl) (bn (v := vi (IntKind.i64.wrap (y11 + (IntKind.i64.wrap b13)))) rfl rfl) (RV.d trivial)
theorem vJ {a0 : Int} {r : Int} (h : lB a0 = some r) : PCall Try.prog 122 [.int .u64 a0] (.int .i64 r) := by
 refine PCall.introN t1 (show 1 ≤ 8 by decide) ?_
 refine aX (s0 := ⟨tab [(0, .d (.int .u64 a0))], ac [], 0⟩) (nr []) ?_
 refine ak ⟨tab [(0, .d (.int .u64 a0))], ac [], 0⟩ ?_ ?_
 ·
  refine q1 _ ?_
  exact nR []
 refine aN ?_
 refine aS (t := false) rfl (by decide) ?_
 refine bm ?_
 obtain ⟨r1, hr1, h⟩ := aq h
 refine ak ⟨tab [(2, vi r1)], ac [], 0⟩ ?_ ?_
 ·
  refine q1 _ ?_
  refine a9 (r := .int .i64 r1) (aF aL.nil') (vI hr1) ?_
  refine q1 _ ?_
  exact nR []
 have hh := ap h
 subst hh
 refine aV ?_
 show FQ _ _ _ _
 exact bh (.inr rfl) (bn (v := vi r1) rfl rfl) (RV.d trivial)
theorem vK {a0 : (List (A8 Int))} {a1 : Int} {a2 : Int} {a3 : ((A8 Int) → (A8 Int) → Option Int)} {g_a3 : D} (hf_a3 : k6 Try.prog g_a3 (eA8 (D.int .u16)) (eA8 (D.int .u16)) (D.int .i64) a3) {r : (List (A8 Int))} (h : gY a0 a1 a2 a3 = some r) : b4 Try.prog 126 [.loc 0 0 a0.length, vi a1, vi a2, .d g_a3] (ac [(0, .lst true (some 8) (List.map (eA8 (D.int .u16)) a0))]) 1 (.d (.tup [])) (ac [(0, .lst true (some 8) (List.map (eA8 (D.int .u16)) r))]) 1 := by
 obtain ⟨fn_a3, cap_a3, rfl, hc_a3⟩ := hf_a3
 refine b4.introN (bl := [(0, .lst true (some 8) (List.map (eA8 (D.int .u16)) a0))]) (bl' := [(0, .lst true (some 8) (List.map (eA8 (D.int .u16)) r))]) t6 (show 4 ≤ 53 by decide) rfl ?_
 refine aX (s0 := ⟨tab [(0, .loc 0 0 a0.length), (1, vi a1), (2, vi a2), (3, .d (.func fn_a3 cap_a3))], ac [(0, .lst true (some 8) (List.map (eA8 (D.int .u16)) a0))], 1⟩) (nr [0]) ?_
 refine ak ⟨tab [(0, .loc 0 0 a0.length), (1, vi a1), (2, vi a2), (3, .d (.func fn_a3 cap_a3)), (8, vi (IntKind.i64.wrap (a1 + 1)))], ac [(0, .lst true (some 8) (List.map (eA8 (D.int .u16)) a0))], 1⟩ ?_ ?_
 ·
  iterate 3 refine q1 _ ?_
  exact nR [0]
 obtain ⟨z26, hl, h⟩ := aq h
 refine cJ 8 rfl fun hA28 => ?_
 refine bE ?_
 refine ft (cK a2) (fun (i2 : Int) (qq : (List (A8 Int))) => ⟨tab [(0, .loc 0 0 qq.length), (1, vi a1), (2, vi a2), (3, .d (.func fn_a3 cap_a3)), (8, vi i2)], ac [(0, .lst true (some 8) (List.map (eA8 (D.int .u16)) qq))], 1⟩) 0 (fun (qq : (List (A8 Int))) => ⟨tab [], ac [(0, .lst true (some 8) (List.map (eA8 (D.int .u16)) qq))], 1⟩) bJ cL hl (rT hA28) ?_ ?_ ?_
 ·
  rintro i2 l1 xr7 hinv5 hgo4 h
  show aP _ _ _ _ _ ⟨tab [(0, .loc 0 0 l1.length), (1, vi a1), (2, vi a2), (3, .d (.func fn_a3 cap_a3)), (8, vi i2)], ac [(0, .lst true (some 8) (List.map (eA8 (D.int .u16)) l1))], 1⟩
  have hc6 : decide (i2 < a2) = true := decide_eq_true hgo4
  refine aN ?_
  refine ak ⟨tab [(0, .loc 0 0 l1.length), (1, vi a1), (2, vi a2), (3, .d (.func fn_a3 cap_a3)), (8, vi i2), (13, vi a2), (14, vb (decide (i2 < a2)))], ac [(0, .lst true (some 8) (List.map (eA8 (D.int .u16)) l1))], 1⟩ ?_ ?_
  ·
   iterate 3 refine q1 _ ?_
   exact nR [0]
  refine cJ 13 rfl fun hB3 => ?_
  refine aT (t := decide (i2 < a2)) rfl hc6 ?_
  refine bm ?_
  refine aN ?_
  refine bE ?_
  refine ak ⟨tab [(0, .loc 0 0 l1.length), (1, vi a1), (2, vi a2), (3, .d (.func fn_a3 cap_a3)), (8, vi i2), (9, vi i2)], ac [(0, .lst true (some 8) (List.map (eA8 (D.int .u16)) l1))], 1⟩ ?_ ?_
  ·
   iterate 2 refine q1 _ ?_
   exact nR [0]
  obtain ⟨q25, hl, h⟩ := aq h
  obtain ⟨z23, z24⟩ := q25
  refine bE ?_
  refine nX (fun (qq : ((List (A8 Int)) × Int)) => ⟨tab [(0, .loc 0 0 qq.1.length), (1, vi a1), (2, vi a2), (3, .d (.func fn_a3 cap_a3)), (8, vi i2), (9, vi qq.2)], ac [(0, .lst true (some 8) (List.map (eA8 (D.int .u16)) qq.1))], 1⟩) 2 (fun (qq : ((List (A8 Int)) × Int)) => ⟨tab [(0, .loc 0 0 qq.1.length), (1, vi a1), (2, vi a2), (3, .d (.func fn_a3 cap_a3)), (8, vi i2)], ac [(0, .lst true (some 8) (List.map (eA8 (D.int .u16)) qq.1))], 1⟩) hl ?_ ?_
  ·
   rintro ⟨l8, i9⟩ xr10 h
   show aP _ _ _ _ _ ⟨tab [(0, .loc 0 0 l8.length), (1, vi a1), (2, vi a2), (3, .d (.func fn_a3 cap_a3)), (8, vi i2), (9, vi i9)], ac [(0, .lst true (some 8) (List.map (eA8 (D.int .u16)) l8))], 1⟩
   refine aN ?_
   obtain ⟨y15, hv, h⟩ := aq h
   refine ak ⟨tab [(0, .loc 0 0 l8.length), (1, vi a1), (2, vi a2), (3, .d (.func fn_a3 cap_a3)), (8, vi i2), (9, vi i9), (34, vb y15)], ac [(0, .lst true (some 8) (List.map (eA8 (D.int .u16)) l8))], 1⟩ ?_ ?_
   ·
    iterate 4 refine q1 _ ?_
    by_cases hg11 : decide (i9 > a1) = true
    ·
     replace hv := aG hg11 hv
     obtain ⟨x12, hx12, hv⟩ := aq hv
     obtain ⟨x13, hx13, hv⟩ := aq hv
     obtain ⟨x14, hx14, hv⟩ := aq hv
     refine qG _ hg11 ?_
     refine q1 _ ?_
     refine qG _ hg11 ?_
     refine q1 _ ?_
     refine qG _ hg11 ?_
     refine q1 _ ?_
     refine qG _ hg11 ?_
     refine step (v := .ptr 0 i9.toNat 0) (eI (xs := l8) (e := (eA8 (D.int .u16))) hx12 rfl rfl rfl rfl) ?_
     refine qG _ hg11 ?_
     refine step (v := .d (eA8 (D.int .u16) x12)) (gi (xs := l8) (e := (eA8 (D.int .u16))) hx12 rfl rfl rfl) ?_
     refine qG _ hg11 ?_
     refine q1 _ ?_
     refine qG _ hg11 ?_
     refine q1 _ ?_
     refine qG _ hg11 ?_
     refine q1 _ ?_
     refine qG _ hg11 ?_
     refine step (v := .ptr 0 (IntKind.i64.wrap (i9 - 1)).toNat 0) (eI (xs := l8) (e := (eA8 (D.int .u16))) hx13 rfl rfl rfl rfl) ?_
     refine qG _ hg11 ?_
     refine step (v := .d (eA8 (D.int .u16) x13)) (gi (xs := l8) (e := (eA8 (D.int .u16))) hx13 rfl rfl rfl) ?_
     refine qG _ hg11 ?_
     refine nJ (r := .int .i64 x14) rfl (aF (aF aL.nil')) (hc_a3 _ _ _ hx14) ?_
     refine qG _ hg11 ?_
     refine q1 _ ?_
     refine step (v := vb (decide (x14 < 0))) (aJ (b := decide (i9 > a1)) rfl hg11 rfl) ?_
     have hh := ap hv
     subst hh
     exact nR [0]
    ·
     replace hv := aH hg11 hv
     iterate 12 refine qX _ hg11 ?_
     refine step (v := vb false) (aM (b := decide (i9 > a1)) rfl hg11 rfl) ?_
     have hh := ap hv
     subst hh
     exact nR [0]
   by_cases hc17 : y15 = true
   ·
    replace h := aG hc17 h
    refine aT (t := y15) rfl hc17 ?_
    refine bm ?_
    refine aN ?_
    refine bE ?_
    obtain ⟨x18, hx18, h⟩ := aq h
    obtain ⟨x19, hx19, h⟩ := aq h
    obtain ⟨l20, hl20, h⟩ := aq h
    obtain ⟨x21, hx21, h⟩ := aq h
    obtain ⟨l22, hl22, h⟩ := aq h
    refine pd ⟨tab [(0, .loc 0 0 l22.length), (1, vi a1), (2, vi a2), (3, .d (.func fn_a3 cap_a3)), (8, vi i2), (9, vi i9)], ac [(0, .lst true (some 8) (List.map (eA8 (D.int .u16)) l22))], 1⟩ ?_ ?_
    ·
     refine cb [] [] (v := .loc 0 0 l8.length) rfl rfl rfl ?_
     refine cb [] [] (v := vi i9) rfl rfl rfl ?_
     refine cb [] [] (v := .loc 0 0 l8.length) rfl rfl rfl ?_
     refine cb [] [] (v := vi i9) rfl rfl rfl ?_
     refine cb [] [] (v := vi (IntKind.i64.wrap (i9 - 1))) rfl rfl rfl ?_
     refine cb [] [] (v := .loc 0 0 l8.length) rfl rfl rfl ?_
     refine cb [] [] (v := vi i9) rfl rfl rfl ?_
     refine cb [] [] (v := vi (IntKind.i64.wrap (i9 - 1))) rfl rfl rfl ?_
     refine cb [0] [] (v := .ptr 0 (IntKind.i64.wrap (i9 - 1)).toNat 0) (eI (xs := l8) (e := (eA8 (D.int .u16))) hx18 rfl rfl rfl rfl) rfl rfl ?_
     refine cb [0] [] (v := .d (eA8 (D.int .u16) x18)) (gi (xs := l8) (e := (eA8 (D.int .u16))) hx18 rfl rfl rfl) rfl rfl ?_
     refine cb [] [] (v := .loc 0 0 l8.length) rfl rfl rfl ?_
     refine cb [] [] (v := vi i9) rfl rfl rfl ?_
     refine cb [0] [] (v := .ptr 0 i9.toNat 0) (eI (xs := l8) (e := (eA8 (D.int .u16))) hx19 rfl rfl rfl rfl) rfl rfl ?_
     refine cb [0] [] (v := .d (eA8 (D.int .u16) x19)) (gi (xs := l8) (e := (eA8 (D.int .u16))) hx19 rfl rfl rfl) rfl rfl ?_
     refine cb [0] [] (v := .ptr 0 i9.toNat 0) (eI (xs := l8) (e := (eA8 (D.int .u16))) hx19 rfl rfl rfl rfl) rfl rfl ?_
     refine cb [0] [0] (v := V.undef) (σ' := (al (ac [(0, .lst true (some 8) (List.map (eA8 (D.int .u16)) l8))]) 0 (some (.lst true (some 8) (List.map (eA8 (D.int .u16)) l20))))) (n' := 1) (k7 (e := (eA8 (D.int .u16))) (v' := x18) hl20 rfl rfl rfl rfl rfl) rfl rfl ?_
     refine cb [0] [] (v := .ptr 0 (IntKind.i64.wrap (i9 - 1)).toNat 0) (eI (xs := l20) (e := (eA8 (D.int .u16))) hx21 rfl rfl (jB hl20).symm rfl) rfl rfl ?_
     refine cb [0] [0] (v := V.undef) (σ' := (al (al (ac [(0, .lst true (some 8) (List.map (eA8 (D.int .u16)) l8))]) 0 (some (.lst true (some 8) (List.map (eA8 (D.int .u16)) l20)))) 0 (some (.lst true (some 8) (List.map (eA8 (D.int .u16)) l22))))) (n' := 1) (k7 (e := (eA8 (D.int .u16))) (v' := x19) hl22 rfl rfl rfl rfl rfl) rfl rfl ?_
     exact ca.nil' ⟨by decide, nm [0] ⟨.le (id := 0) ((jB hl20).symm.trans (jB hl22).symm) (show 0 < 1 by decide), .d _, .d _, .d _, .d _, .d _, trivial⟩ ⟨⟨show 0 < 1 by decide, _, rfl, .lst _ _ _⟩, trivial⟩⟩
    have hh := ap h
    subst hh
    refine bN ⟨tab [(0, .loc 0 0 l22.length), (1, vi a1), (2, vi a2), (3, .d (.func fn_a3 cap_a3)), (8, vi i2), (9, vi (IntKind.i64.wrap (i9 - 1)))], ac [(0, .lst true (some 8) (List.map (eA8 (D.int .u16)) l22))], 1⟩ ?_ ?_
    ·
     iterate 3 refine q1 _ ?_
     exact nR [0]
    exact And.intro rfl rfl
   ·
    replace h := aH hc17 h
    refine aS (t := y15) rfl hc17 ?_
    have hh := ap h
    subst hh
    refine aX (s0 := ⟨tab [(0, .loc 0 0 l8.length), (1, vi a1), (2, vi a2), (3, .d (.func fn_a3 cap_a3)), (8, vi i2)], ac [(0, .lst true (some 8) (List.map (eA8 (D.int .u16)) l8))], 1⟩) (nr [0]) ?_
    refine cz ?_
    exact And.intro rfl rfl
  have hh := ap h
  subst hh
  refine bN ⟨tab [(0, .loc 0 0 z23.length), (1, vi a1), (2, vi a2), (3, .d (.func fn_a3 cap_a3)), (8, vi (i2 + 1))], ac [(0, .lst true (some 8) (List.map (eA8 (D.int .u16)) z23))], 1⟩ ?_ ?_
  ·
   refine q1 _ ?_
   refine step (v := vi (i2 + 1)) (cM (cN hinv5 hgo4 hB3) rfl rfl) ?_
   refine q1 _ ?_
   exact nR [0]
  exact And.intro rfl rfl
 ·
  rintro i2 l1 hinv5 hgo4
  show aP _ _ _ _ _ ⟨tab [(0, .loc 0 0 l1.length), (1, vi a1), (2, vi a2), (3, .d (.func fn_a3 cap_a3)), (8, vi i2)], ac [(0, .lst true (some 8) (List.map (eA8 (D.int .u16)) l1))], 1⟩
  have hc6 : ¬ (decide (i2 < a2) = true) := fun hq => hgo4 (of_decide_eq_true hq)
  refine aN ?_
  refine ak ⟨tab [(0, .loc 0 0 l1.length), (1, vi a1), (2, vi a2), (3, .d (.func fn_a3 cap_a3)), (8, vi i2), (14, vb (decide (i2 < a2)))], ac [(0, .lst true (some 8) (List.map (eA8 (D.int .u16)) l1))], 1⟩ ?_ ?_
  ·
   iterate 3 refine q1 _ ?_
   exact nR [0]
  refine aS (t := decide (i2 < a2)) rfl hc6 ?_
  refine aX (s0 := ⟨tab [], ac [(0, .lst true (some 8) (List.map (eA8 (D.int .u16)) l1))], 1⟩) (nr [0]) ?_
  refine cz ?_
  exact And.intro rfl rfl
 have hh := ap h
 subst hh
 exact ⟨.inl rfl, _, rfl, rfl, dp.sub ⟨rfl, trivial⟩, rfl⟩
theorem vL {a0 : (List (A8 Int))} {a1 : Int} {a2 : Int} {a3 : Int} {a4 : ((A8 Int) → (A8 Int) → Option Int)} {g_a4 : D} (hf_a4 : k6 Try.prog g_a4 (eA8 (D.int .u16)) (eA8 (D.int .u16)) (D.int .i64) a4) {r : (List (A8 Int))} (h : gZ a0 a1 a2 a3 a4 = some r) : b4 Try.prog 121 [.loc 0 0 a0.length, vi a1, vi a2, vi a3, .d g_a4] (ac [(0, .lst true (some 8) (List.map (eA8 (D.int .u16)) a0))]) 1 (.d (.tup [])) (ac [(0, .lst true (some 8) (List.map (eA8 (D.int .u16)) r))]) 1 := by
 obtain ⟨fn_a4, cap_a4, rfl, hc_a4⟩ := hf_a4
 refine b4.introN (bl := [(0, .lst true (some 8) (List.map (eA8 (D.int .u16)) a0))]) (bl' := [(0, .lst true (some 8) (List.map (eA8 (D.int .u16)) r))]) t9 (show 5 ≤ 148 by decide) rfl ?_
 refine aX (s0 := ⟨tab [(0, .loc 0 0 a0.length), (1, vi a1), (2, vi a2), (3, vi a3), (4, .d (.func fn_a4 cap_a4))], ac [(0, .lst true (some 8) (List.map (eA8 (D.int .u16)) a0))], 1⟩) (nr [0]) ?_
 refine ak ⟨tab [(0, .loc 0 0 a0.length), (1, vi a1), (2, vi a2), (3, vi a3), (4, .d (.func fn_a4 cap_a4)), (10, vb true)], ac [(0, .lst true (some 8) (List.map (eA8 (D.int .u16)) a0))], 1⟩ ?_ ?_
 ·
  refine q1 _ ?_
  exact nR [0]
 refine ak ⟨tab [(0, .loc 0 0 a0.length), (1, vi a1), (2, vi a2), (3, vi a3), (4, .d (.func fn_a4 cap_a4)), (10, vb true), (11, vb true)], ac [(0, .lst true (some 8) (List.map (eA8 (D.int .u16)) a0))], 1⟩ ?_ ?_
 ·
  refine q1 _ ?_
  exact nR [0]
 obtain ⟨q7, hl, h⟩ := aq h
 refine bE ?_
 refine rK (fun (qq : Unit) => ⟨tab [(0, .loc 0 0 a0.length), (1, vi a1), (2, vi a2), (3, vi a3), (4, .d (.func fn_a4 cap_a4)), (10, vb true), (11, vb true)], ac [(0, .lst true (some 8) (List.map (eA8 (D.int .u16)) a0))], 1⟩) 0 (fun (qq : Unit) => ⟨tab [], ac [(0, .lst true (some 8) (List.map (eA8 (D.int .u16)) a0))], 1⟩) (r := r) hl ?_ ?_ ?_
 ·
  rintro ⟨⟩ xr1 h
  show aP _ _ _ _ _ ⟨tab [(0, .loc 0 0 a0.length), (1, vi a1), (2, vi a2), (3, vi a3), (4, .d (.func fn_a4 cap_a4)), (10, vb true), (11, vb true)], ac [(0, .lst true (some 8) (List.map (eA8 (D.int .u16)) a0))], 1⟩
  refine bE ?_
  refine ak ⟨tab [(0, .loc 0 0 a0.length), (1, vi a1), (2, vi a2), (3, vi a3), (4, .d (.func fn_a4 cap_a4)), (10, vb true), (11, vb true), (12, vi (IntKind.i64.wrap (a2 - a1)))], ac [(0, .lst true (some 8) (List.map (eA8 (D.int .u16)) a0))], 1⟩ ?_ ?_
  ·
   iterate 4 refine q1 _ ?_
   exact nR [0]
  refine aN ?_
  refine ak ⟨tab [(0, .loc 0 0 a0.length), (1, vi a1), (2, vi a2), (3, vi a3), (4, .d (.func fn_a4 cap_a4)), (10, vb true), (11, vb true), (12, vi (IntKind.i64.wrap (a2 - a1))), (25, vb (decide ((IntKind.i64.wrap (a2 - a1)) ≤ 12)))], ac [(0, .lst true (some 8) (List.map (eA8 (D.int .u16)) a0))], 1⟩ ?_ ?_
  ·
   iterate 2 refine q1 _ ?_
   exact nR [0]
  by_cases hc2 : decide ((IntKind.i64.wrap (a2 - a1)) ≤ 12) = true
  ·
   replace h := aG hc2 h
   refine aT (t := decide ((IntKind.i64.wrap (a2 - a1)) ≤ 12)) rfl hc2 ?_
   obtain ⟨r3, hr3, h⟩ := aq h
   refine ak ⟨tab [], ac [(0, .lst true (some 8) (List.map (eA8 (D.int .u16)) r3))], 1⟩ ?_ ?_
   ·
    iterate 4 refine q1 _ ?_
    refine fC (v := .d (.tup [])) (σ' := (al (al (ac [(0, .lst true (some 8) (List.map (eA8 (D.int .u16)) a0))]) 0 none) 0 (some (.lst true (some 8) (List.map (eA8 (D.int .u16)) r3))))) (n' := 1) (f9 [0] (vK ⟨_, _, rfl, hc_a4⟩ hr3) (show 1 ≤ 1 by decide) (by decide) (show ∀ i ∈ [0], i < 1 by decide) (gm (show 0 < 1 by decide) gn) (bR.c (.lc 0) (bR.c (.d _) (bR.c (.d _) (bR.c (.d _) bR.nil0)))) (SN.c (show 0 < 1 by decide) rfl (.lst _ _ _) SN.nil0)) (show 1 ≤ 1 by decide) ?_
    exact nR [0]
   obtain ⟨r4, kr4, hr⟩ := c5 (o := some r3) (g := Br.ret) h
   subst hr
   have h := kr4
   have hh := ap h
   subst hh
   refine aV ?_
   refine And.intro (fun hn => nomatch hn) ?_
   intro hq
   have hq := hq.symm
   subst hq
   exact ⟨.inr rfl, _, rfl, rfl, dp.sub ⟨rfl, trivial⟩, rfl⟩
  ·
   replace h := aH hc2 h
   refine aS (t := decide ((IntKind.i64.wrap (a2 - a1)) ≤ 12)) rfl hc2 ?_
   refine bm ?_
   refine aN ?_
   refine ak ⟨tab [(0, .loc 0 0 a0.length), (1, vi a1), (2, vi a2), (3, vi a3), (4, .d (.func fn_a4 cap_a4)), (10, vb true), (11, vb true), (12, vi (IntKind.i64.wrap (a2 - a1))), (32, vb (a3 == 0))], ac [(0, .lst true (some 8) (List.map (eA8 (D.int .u16)) a0))], 1⟩ ?_ ?_
   ·
    iterate 2 refine q1 _ ?_
    exact nR [0]
   by_cases hc4 : (a3 == 0) = true
   ·
    replace h := aG hc4 h
    refine aT (t := (a3 == 0)) rfl hc4 ?_
    cases h
   ·
    replace h := aH hc4 h
    refine aS (t := (a3 == 0)) rfl hc4 ?_
    refine bm ?_
    obtain ⟨q6, hv, h⟩ := aq h
    obtain ⟨⟩ := q6
    refine ex ⟨tab [(0, .loc 0 0 a0.length), (1, vi a1), (2, vi a2), (3, vi a3), (4, .d (.func fn_a4 cap_a4)), (10, vb true), (11, vb true), (12, vi (IntKind.i64.wrap (a2 - a1)))], ac [(0, .lst true (some 8) (List.map (eA8 (D.int .u16)) a0))], 1⟩ ?_ ?_
    ·
     replace h := hv
     refine ak ⟨tab [(0, .loc 0 0 a0.length), (1, vi a1), (2, vi a2), (3, vi a3), (4, .d (.func fn_a4 cap_a4)), (10, vb true), (11, vb true), (12, vi (IntKind.i64.wrap (a2 - a1))), (39, vb (!true))], ac [(0, .lst true (some 8) (List.map (eA8 (D.int .u16)) a0))], 1⟩ ?_ ?_
     ·
      iterate 2 refine q1 _ ?_
      exact nR [0]
     by_cases hc5 : (!true) = true
     ·
      replace h := aG hc5 h
      refine aT (t := (!true)) rfl hc5 ?_
      cases h
     ·
      replace h := aH hc5 h
      refine aS (t := (!true)) rfl hc5 ?_
      refine aX (s0 := ⟨tab [(0, .loc 0 0 a0.length), (1, vi a1), (2, vi a2), (3, vi a3), (4, .d (.func fn_a4 cap_a4)), (10, vb true), (11, vb true), (12, vi (IntKind.i64.wrap (a2 - a1)))], ac [(0, .lst true (some 8) (List.map (eA8 (D.int .u16)) a0))], 1⟩) (nr [0]) ?_
      refine bm ?_
      exact And.intro rfl rfl
    cases h
 ·
  intro r' hq
  subst hq
  exact ap h
 rintro ⟨⟩ rfl
 have hh := ap h
 subst hh
 exact ⟨.inl rfl, _, rfl, rfl, dp.sub ⟨rfl, trivial⟩, rfl⟩
theorem vM {a0 : (List (A8 Int))} {a1 : ((A8 Int) → (A8 Int) → Option Int)} {g_a1 : D} (hf_a1 : k6 Try.prog g_a1 (eA8 (D.int .u16)) (eA8 (D.int .u16)) (D.int .i64) a1) {r : (List (A8 Int))} (h : eW a0 a1 = some r) : b4 Try.prog 111 [.loc 0 0 a0.length, .d g_a1] (ac [(0, .lst true (some 8) (List.map (eA8 (D.int .u16)) a0))]) 1 (.d (.tup [])) (ac [(0, .lst true (some 8) (List.map (eA8 (D.int .u16)) r))]) 1 := by
 obtain ⟨fn_a1, cap_a1, rfl, hc_a1⟩ := hf_a1
 refine b4.introN (bl := [(0, .lst true (some 8) (List.map (eA8 (D.int .u16)) a0))]) (bl' := [(0, .lst true (some 8) (List.map (eA8 (D.int .u16)) r))]) ub (show 2 ≤ 14 by decide) rfl ?_
 refine aX (s0 := ⟨tab [(0, .loc 0 0 a0.length), (1, .d (.func fn_a1 cap_a1))], ac [(0, .lst true (some 8) (List.map (eA8 (D.int .u16)) a0))], 1⟩) (nr [0]) ?_
 refine ak ⟨tab [(0, .loc 0 0 a0.length), (1, .d (.func fn_a1 cap_a1)), (4, vi (a0.length : Int))], ac [(0, .lst true (some 8) (List.map (eA8 (D.int .u16)) a0))], 1⟩ ?_ ?_
 ·
  iterate 3 refine q1 _ ?_
  exact nR [0]
 obtain ⟨r1, hr1, h⟩ := aq h
 obtain ⟨r2, hr2, h⟩ := aq h
 have hh := ap h
 subst hh
 refine bN ⟨tab [], ac [(0, .lst true (some 8) (List.map (eA8 (D.int .u16)) r2))], 1⟩ ?_ ?_
 ·
  iterate 4 refine q1 _ ?_
  refine a9 (r := .int .i64 r1) (aF aL.nil') (vJ hr1) ?_
  refine q1 _ ?_
  refine fC (v := .d (.tup [])) (σ' := (al (al (ac [(0, .lst true (some 8) (List.map (eA8 (D.int .u16)) a0))]) 0 none) 0 (some (.lst true (some 8) (List.map (eA8 (D.int .u16)) r2))))) (n' := 1) (f9 [0] (vL ⟨_, _, rfl, hc_a1⟩ hr2) (show 1 ≤ 1 by decide) (by decide) (show ∀ i ∈ [0], i < 1 by decide) (gm (show 0 < 1 by decide) gn) (bR.c (.lc 0) (bR.c (.d _) (bR.c (.d _) (bR.c (.d _) (bR.c (.d _) bR.nil0))))) (SN.c (show 0 < 1 by decide) rfl (.lst _ _ _) SN.nil0)) (show 1 ≤ 1 by decide) ?_
  exact nR [0]
 exact ⟨.inl rfl, _, rfl, rfl, dp.sub ⟨rfl, trivial⟩, rfl⟩
theorem po {a0 : Int} {r : Bool} (h : jS a0 = some r) : PCall Try.prog 136 [.int .u16 a0] (.bool r) := by
 refine PCall.introN ud (show 1 ≤ 6 by decide) ?_
 refine aX (s0 := ⟨tab [(0, vh a0)], ac [], 0⟩) (nr []) ?_
 refine ak ⟨tab [(0, vh a0)], ac [], 0⟩ ?_ ?_
 ·
  refine q1 _ ?_
  exact nR []
 refine ak ⟨tab [(2, vb (a0 != a0))], ac [], 0⟩ ?_ ?_
 ·
  iterate 4 refine q1 _ ?_
  exact nR []
 have hh := ap h
 subst hh
 refine aV ?_
 show FQ _ _ _ _
 exact bh (.inr rfl) (bn (v := vb (a0 != a0)) rfl rfl) (RV.d trivial)
theorem vN {a0 : Int} {a1 : Int} {r : Int} (h : jT a0 a1 = some r) : PCall Try.prog 123 [.int .u16 a0, .int .u16 a1] (.int .i64 r) := by
 refine PCall.introN uf (show 2 ≤ 20 by decide) ?_
 refine aX (s0 := ⟨tab [(0, vh a0), (1, vh a1)], ac [], 0⟩) (nr []) ?_
 refine ak ⟨tab [(0, vh a0), (1, vh a1)], ac [], 0⟩ ?_ ?_
 ·
  refine q1 _ ?_
  exact nR []
 obtain ⟨r1, hr1, h⟩ := aq h
 refine ak ⟨tab [(0, vh a0), (1, vh a1), (5, vb r1)], ac [], 0⟩ ?_ ?_
 ·
  refine q1 _ ?_
  refine a9 (r := .bool r1) (aF aL.nil') (po hr1) ?_
  refine q1 _ ?_
  exact nR []
 obtain ⟨r2, hr2, h⟩ := aq h
 refine ak ⟨tab [(0, vh a0), (1, vh a1), (5, vb r1), (6, vb r2)], ac [], 0⟩ ?_ ?_
 ·
  refine q1 _ ?_
  refine a9 (r := .bool r2) (aF aL.nil') (po hr2) ?_
  refine q1 _ ?_
  exact nR []
 refine aN ?_
 refine ak ⟨tab [(0, vh a0), (1, vh a1), (6, vb r2), (11, vb r1)], ac [], 0⟩ ?_ ?_
 ·
  refine q1 _ ?_
  exact nR []
 by_cases hc3 : r1 = true
 ·
  replace h := aG hc3 h
  refine aT (t := r1) rfl hc3 ?_
  refine aN ?_
  refine ak ⟨tab [(12, vb r2)], ac [], 0⟩ ?_ ?_
  ·
   refine q1 _ ?_
   exact nR []
  by_cases hc4 : r2 = true
  ·
   replace h := aG hc4 h
   refine aT (t := r2) rfl hc4 ?_
   refine ak ⟨tab [(4, vi 0)], ac [], 0⟩ ?_ ?_
   ·
    refine q1 _ ?_
    exact nR []
   have hh := ap h
   subst hh
   refine aV ?_
   show FQ _ _ _ _
   exact bh (.inr rfl) (bn (v := vi 0) rfl rfl) (RV.d trivial)
  ·
   replace h := aH hc4 h
   refine aS (t := r2) rfl hc4 ?_
   refine bm ?_
   refine ak ⟨tab [(4, vi (-1))], ac [], 0⟩ ?_ ?_
   ·
    refine q1 _ ?_
    exact nR []
   have hh := ap h
   subst hh
   refine aV ?_
   show FQ _ _ _ _
   exact bh (.inr rfl) (bn (v := vi (-1)) rfl rfl) (RV.d trivial)
 ·
  replace h := aH hc3 h
  refine aS (t := r1) rfl hc3 ?_
  refine bm ?_
  refine aN ?_
  refine ak ⟨tab [(0, vh a0), (1, vh a1), (13, vb r2)], ac [], 0⟩ ?_ ?_
  ·
   refine q1 _ ?_
   exact nR []
  by_cases hc5 : r2 = true
  ·
   replace h := aG hc5 h
   refine aT (t := r2) rfl hc5 ?_
   refine ak ⟨tab [(4, vi 1)], ac [], 0⟩ ?_ ?_
   ·
    refine q1 _ ?_
    exact nR []
   have hh := ap h
   subst hh
   refine aV ?_
   show FQ _ _ _ _
   exact bh (.inr rfl) (bn (v := vi 1) rfl rfl) (RV.d trivial)
  ·
   replace h := aH hc5 h
   refine aS (t := r2) rfl hc5 ?_
   refine bm ?_
   refine aN ?_
   refine ak ⟨tab [(0, vh a0), (1, vh a1), (16, vb (decide (a0 < a1)))], ac [], 0⟩ ?_ ?_
   ·
    iterate 3 refine q1 _ ?_
    exact nR []
   by_cases hc6 : decide (a0 < a1) = true
   ·
    replace h := aG hc6 h
    refine aT (t := decide (a0 < a1)) rfl hc6 ?_
    refine ak ⟨tab [(4, vi (-1))], ac [], 0⟩ ?_ ?_
    ·
     refine q1 _ ?_
     exact nR []
    have hh := ap h
    subst hh
    refine aV ?_
    show FQ _ _ _ _
    exact bh (.inr rfl) (bn (v := vi (-1)) rfl rfl) (RV.d trivial)
   ·
    replace h := aH hc6 h
    refine aS (t := decide (a0 < a1)) rfl hc6 ?_
    refine bm ?_
    refine aN ?_
    refine ak ⟨tab [(19, vb (decide (a0 > a1)))], ac [], 0⟩ ?_ ?_
    ·
     iterate 3 refine q1 _ ?_
     exact nR []
    by_cases hc7 : decide (a0 > a1) = true
    ·
     replace h := aG hc7 h
     refine aT (t := decide (a0 > a1)) rfl hc7 ?_
     refine ak ⟨tab [(4, vi 1)], ac [], 0⟩ ?_ ?_
     ·
      refine q1 _ ?_
      exact nR []
     have hh := ap h
     subst hh
     refine aV ?_
     show FQ _ _ _ _
     exact bh (.inr rfl) (bn (v := vi 1) rfl rfl) (RV.d trivial)
    ·
     replace h := aH hc7 h
     refine aS (t := decide (a0 > a1)) rfl hc7 ?_
     refine bm ?_
     refine ak ⟨tab [(4, vi 0)], ac [], 0⟩ ?_ ?_
     ·
      refine q1 _ ?_
      exact nR []
     have hh := ap h
     subst hh
     refine aV ?_
     show FQ _ _ _ _
     exact bh (.inr rfl) (bn (v := vi 0) rfl rfl) (RV.d trivial)
theorem vO {a0 : (A8 Int)} {a1 : (A8 Int)} {r : Int} (h : fK a0 a1 = some r) : PCall Try.prog 112 [eA8 (D.int .u16) a0, eA8 (D.int .u16) a1] (.int .i64 r) := by
 refine PCall.introN ui (show 2 ≤ 21 by decide) ?_
 refine aX (s0 := ⟨tab [(0, .d (eA8 (D.int .u16) a0)), (1, .d (eA8 (D.int .u16) a1))], ac [], 0⟩) (nr []) ?_
 refine ak ⟨tab [(2, .d (.cptr (some 8) (eA8 (D.int .u16) a0) 0)), (3, .d (.cptr (some 8) (eA8 (D.int .u16) a1) 0))], ac [], 0⟩ ?_ ?_
 ·
  iterate 3 refine q1 _ ?_
  exact nR []
 refine aN ?_
 refine ak ⟨tab [(2, .d (.cptr (some 8) (eA8 (D.int .u16) a0) 0)), (3, .d (.cptr (some 8) (eA8 (D.int .u16) a1) 0)), (7, vi 0)], ac [], 0⟩ ?_ ?_
 ·
  refine q1 _ ?_
  exact nR []
 obtain ⟨q11, hl, h⟩ := aq h
 refine bE ?_
 refine ey (cK 8) (fun (i1 : Int) (qq : Unit) => ⟨tab [(2, .d (.cptr (some 8) (eA8 (D.int .u16) a0) 0)), (3, .d (.cptr (some 8) (eA8 (D.int .u16) a1) 0)), (7, vi i1)], ac [], 0⟩) 0 (fun (qq : Unit) => ⟨tab [], ac [], 0⟩) bJ cL (r := r) hl (by unfold bJ; omega) ?_ ?_ ?_ ?_
 ·
  rintro i1 ⟨⟩ xr6 hinv4 hgo3 h
  show aP _ _ _ _ _ ⟨tab [(2, .d (.cptr (some 8) (eA8 (D.int .u16) a0) 0)), (3, .d (.cptr (some 8) (eA8 (D.int .u16) a1) 0)), (7, vi i1)], ac [], 0⟩
  have hc5 : decide (i1 < 8) = true := decide_eq_true hgo3
  refine ak ⟨tab [(2, .d (.cptr (some 8) (eA8 (D.int .u16) a0) 0)), (3, .d (.cptr (some 8) (eA8 (D.int .u16) a1) 0)), (7, vi i1), (8, vb (decide (i1 < 8)))], ac [], 0⟩ ?_ ?_
  ·
   refine q1 _ ?_
   exact nR []
  refine aN ?_
  refine aT (t := decide (i1 < 8)) rfl hc5 ?_
  refine bm ?_
  refine aN ?_
  refine bE ?_
  refine ak ⟨tab [(2, .d (.cptr (some 8) (eA8 (D.int .u16) a0) 0)), (3, .d (.cptr (some 8) (eA8 (D.int .u16) a1) 0)), (5, vi i1), (7, vi i1)], ac [], 0⟩ ?_ ?_
  ·
   iterate 2 refine q1 _ ?_
   exact nR []
  obtain ⟨x7, hx7, h⟩ := aq h
  obtain ⟨x8, hx8, h⟩ := aq h
  obtain ⟨r9, hr9, h⟩ := aq h
  refine ak ⟨tab [(2, .d (.cptr (some 8) (eA8 (D.int .u16) a0) 0)), (3, .d (.cptr (some 8) (eA8 (D.int .u16) a1) 0)), (6, vi r9), (7, vi i1)], ac [], 0⟩ ?_ ?_
  ·
   refine q1 _ ?_
   refine step (v := .d (.cptr (some 8) (eA8 (D.int .u16) a0) (0 + i1.toNat * 1))) (lh (xs := a0.l) hx7 rfl rfl rfl) ?_
   refine step (v := vh x7) (lb rfl (k9 (e := (D.int .u16)) (xs := a0.l) (pre := []) (post := []) hx7 rfl (by decide))) ?_
   refine q1 _ ?_
   refine step (v := .d (.cptr (some 8) (eA8 (D.int .u16) a1) (0 + i1.toNat * 1))) (lh (xs := a1.l) hx8 rfl rfl rfl) ?_
   refine step (v := vh x8) (lb rfl (k9 (e := (D.int .u16)) (xs := a1.l) (pre := []) (post := []) hx8 rfl (by decide))) ?_
   refine a9 (r := .int .i64 r9) (aF (aF aL.nil')) (vN hr9) ?_
   refine q1 _ ?_
   exact nR []
  refine ak ⟨tab [(2, .d (.cptr (some 8) (eA8 (D.int .u16) a0) 0)), (3, .d (.cptr (some 8) (eA8 (D.int .u16) a1) 0)), (6, vi r9), (7, vi i1), (18, vb (r9 != 0))], ac [], 0⟩ ?_ ?_
  ·
   iterate 2 refine q1 _ ?_
   exact nR []
  by_cases hc10 : (r9 != 0) = true
  ·
   replace h := aG hc10 h
   refine aT (t := (r9 != 0)) rfl hc10 ?_
   refine ak ⟨tab [(4, vi r9)], ac [], 0⟩ ?_ ?_
   ·
    iterate 2 refine q1 _ ?_
    exact nR []
   obtain ⟨r11, kr11, hr⟩ := c5 (o := some r9) (g := Br.ret) h
   subst hr
   have h := kr11
   have hh := ap h
   subst hh
   refine aV ?_
   refine And.intro (fun hn => nomatch hn) ?_
   intro hq
   have hq := hq.symm
   subst hq
   show FQ _ _ _ _
   exact bh (.inr rfl) (bn (v := vi r9) rfl rfl) (RV.d trivial)
  ·
   replace h := aH hc10 h
   refine aS (t := (r9 != 0)) rfl hc10 ?_
   refine bm ?_
   have hh := ap h
   subst hh
   refine bN ⟨tab [(2, .d (.cptr (some 8) (eA8 (D.int .u16) a0) 0)), (3, .d (.cptr (some 8) (eA8 (D.int .u16) a1) 0)), (7, vi (i1 + 1))], ac [], 0⟩ ?_ ?_
   ·
    refine step (v := vi (i1 + 1)) (cM (cN hinv4 hgo3 (by decide)) rfl rfl) ?_
    refine q1 _ ?_
    exact nR []
   exact And.intro rfl rfl
 ·
  rintro i1 ⟨⟩ hinv4 hgo3
  show aP _ _ _ _ _ ⟨tab [(2, .d (.cptr (some 8) (eA8 (D.int .u16) a0) 0)), (3, .d (.cptr (some 8) (eA8 (D.int .u16) a1) 0)), (7, vi i1)], ac [], 0⟩
  have hc5 : ¬ (decide (i1 < 8) = true) := fun hq => hgo3 (of_decide_eq_true hq)
  refine ak ⟨tab [(2, .d (.cptr (some 8) (eA8 (D.int .u16) a0) 0)), (3, .d (.cptr (some 8) (eA8 (D.int .u16) a1) 0)), (7, vi i1), (8, vb (decide (i1 < 8)))], ac [], 0⟩ ?_ ?_
  ·
   refine q1 _ ?_
   exact nR []
  refine aN ?_
  refine aS (t := decide (i1 < 8)) rfl hc5 ?_
  refine aX (s0 := ⟨tab [], ac [], 0⟩) (nr []) ?_
  refine cz ?_
  exact And.intro rfl rfl
 ·
  intro r' hq
  subst hq
  exact ap h
 rintro ⟨⟩ rfl
 refine ak ⟨tab [(4, vi 0)], ac [], 0⟩ ?_ ?_
 ·
  refine q1 _ ?_
  exact nR []
 have hh := ap h
 subst hh
 refine aV ?_
 show FQ _ _ _ _
 exact bh (.inr rfl) (bn (v := vi 0) rfl rfl) (RV.d trivial)
theorem vP {a0 : (List (A8 Int))} {r : (List (A8 Int))} (h : g7 a0 = some r) : b4 Try.prog 113 [.loc 0 0 a0.length] (ac [(0, .lst true (some 8) (List.map (eA8 (D.int .u16)) a0))]) 1 (.loc 0 0 r.length) (ac [(0, .lst true (some 8) (List.map (eA8 (D.int .u16)) r))]) 1 := by
 refine b4.introN (bl := [(0, .lst true (some 8) (List.map (eA8 (D.int .u16)) a0))]) (bl' := [(0, .lst true (some 8) (List.map (eA8 (D.int .u16)) r))]) um (show 1 ≤ 61 by decide) rfl ?_
 refine aX (s0 := ⟨tab [(0, .loc 0 0 a0.length)], ac [(0, .lst true (some 8) (List.map (eA8 (D.int .u16)) a0))], 1⟩) (nr [0]) ?_
 refine ak ⟨tab [(0, .loc 0 0 a0.length)], ac [(0, .lst true (some 8) (List.map (eA8 (D.int .u16)) a0))], 1⟩ ?_ ?_
 ·
  refine q1 _ ?_
  exact nR [0]
 refine aN ?_
 refine ak ⟨tab [(0, .loc 0 0 a0.length), (8, vb (decide ((a0.length : Int) < 2)))], ac [(0, .lst true (some 8) (List.map (eA8 (D.int .u16)) a0))], 1⟩ ?_ ?_
 ·
  iterate 3 refine q1 _ ?_
  exact nR [0]
 by_cases hc1 : decide ((a0.length : Int) < 2) = true
 ·
  replace h := aG hc1 h
  refine aT (t := decide ((a0.length : Int) < 2)) rfl hc1 ?_
  refine ak ⟨tab [(2, .loc 0 0 a0.length)], ac [(0, .lst true (some 8) (List.map (eA8 (D.int .u16)) a0))], 1⟩ ?_ ?_
  ·
   iterate 2 refine q1 _ ?_
   exact nR [0]
  have hh := ap h
  subst hh
  refine aV ?_
  exact ⟨.inr rfl, _, rfl, rfl, dp.sub ⟨rfl, trivial⟩, rfl⟩
 ·
  replace h := aH hc1 h
  refine aS (t := decide ((a0.length : Int) < 2)) rfl hc1 ?_
  refine bm ?_
  refine aN ?_
  refine ak ⟨tab [(0, .loc 0 0 a0.length), (3, vi 1)], ac [(0, .lst true (some 8) (List.map (eA8 (D.int .u16)) a0))], 1⟩ ?_ ?_
  ·
   refine q1 _ ?_
   exact nR [0]
  obtain ⟨q15, hl, h⟩ := aq h
  refine bE ?_
  refine ey (cK (a0.length : Int)) (fun (i2 : Int) (qq : Unit) => ⟨tab [(0, .loc 0 0 a0.length), (3, vi i2)], ac [(0, .lst true (some 8) (List.map (eA8 (D.int .u16)) a0))], 1⟩) 0 (fun (qq : Unit) => ⟨tab [(0, .loc 0 0 a0.length)], ac [(0, .lst true (some 8) (List.map (eA8 (D.int .u16)) a0))], 1⟩) bJ cL (r := r) hl (by unfold bJ; omega) ?_ ?_ ?_ ?_
  ·
   rintro i2 ⟨⟩ xr7 hinv5 hgo4 h
   show aP _ _ _ _ _ ⟨tab [(0, .loc 0 0 a0.length), (3, vi i2)], ac [(0, .lst true (some 8) (List.map (eA8 (D.int .u16)) a0))], 1⟩
   have hc6 : decide (i2 < (a0.length : Int)) = true := decide_eq_true hgo4
   refine aN ?_
   refine ak ⟨tab [(0, .loc 0 0 a0.length), (3, vi i2), (12, vi (a0.length : Int)), (13, vb (decide (i2 < (a0.length : Int))))], ac [(0, .lst true (some 8) (List.map (eA8 (D.int .u16)) a0))], 1⟩ ?_ ?_
   ·
    iterate 4 refine q1 _ ?_
    exact nR [0]
   refine cJ 12 rfl fun hB3 => ?_
   refine aT (t := decide (i2 < (a0.length : Int))) rfl hc6 ?_
   refine bm ?_
   refine aN ?_
   refine bE ?_
   obtain ⟨x8, hx8, h⟩ := aq h
   obtain ⟨x9, hx9, h⟩ := aq h
   refine ak ⟨tab [(0, .loc 0 0 a0.length), (3, vi i2), (25, vb (x8 == x9))], ac [(0, .lst true (some 8) (List.map (eA8 (D.int .u16)) a0))], 1⟩ ?_ ?_
   ·
    iterate 2 refine q1 _ ?_
    refine step (v := .ptr 0 i2.toNat 0) (eI (xs := a0) (e := (eA8 (D.int .u16))) hx8 rfl rfl rfl rfl) ?_
    refine step (v := .d (eA8 (D.int .u16) x8)) (gi (xs := a0) (e := (eA8 (D.int .u16))) hx8 rfl rfl rfl) ?_
    iterate 3 refine q1 _ ?_
    refine step (v := .ptr 0 (IntKind.i64.wrap (i2 - 1)).toNat 0) (eI (xs := a0) (e := (eA8 (D.int .u16))) hx9 rfl rfl rfl rfl) ?_
    refine step (v := .d (eA8 (D.int .u16) x9)) (gi (xs := a0) (e := (eA8 (D.int .u16))) hx9 rfl rfl rfl) ?_
    refine step (v := vb (x8 == x9)) (k8 (neg := false) rfl rfl (mb x8 x9)) ?_
    exact nR [0]
   by_cases hc10 : (x8 == x9) = true
   ·
    replace h := aG hc10 h
    refine aT (t := (x8 == x9)) rfl hc10 ?_
    obtain ⟨l11, hl11, h⟩ := aq h
    refine ak ⟨tab [(0, .loc 0 0 a0.length), (3, vi i2), (4, .loc 0 i2.toNat ((a0.length : Int).toNat - i2.toNat))], ac [(0, .lst true (some 8) (List.map (eA8 (D.int .u16)) a0))], 1⟩ ?_ ?_
    ·
     iterate 2 refine q1 _ ?_
     refine step (v := .loc 0 i2.toNat ((a0.length : Int).toNat - i2.toNat)) (jC (xs := a0) (e := (eA8 (D.int .u16))) hl11 rfl rfl rfl ⟨_, rfl⟩ rfl) ?_
     refine q1 _ ?_
     exact nR [0]
    refine aN ?_
    refine ak ⟨tab [(0, .loc 0 0 a0.length), (3, vi i2), (4, .loc 0 i2.toNat ((a0.length : Int).toNat - i2.toNat)), (5, vi 1)], ac [(0, .lst true (some 8) (List.map (eA8 (D.int .u16)) a0))], 1⟩ ?_ ?_
    ·
     refine q1 _ ?_
     exact nR [0]
    obtain ⟨q14, hl, h⟩ := aq h
    obtain ⟨⟩ := q14
    refine bE ?_
    refine nX (fun (qq : Unit) => ⟨tab [(0, .loc 0 0 a0.length), (3, vi i2), (4, .loc 0 i2.toNat ((a0.length : Int).toNat - i2.toNat)), (5, vi 1)], ac [(0, .lst true (some 8) (List.map (eA8 (D.int .u16)) a0))], 1⟩) 2 (fun (qq : Unit) => ⟨tab [(0, .loc 0 0 a0.length), (3, vi i2)], ac [(0, .lst true (some 8) (List.map (eA8 (D.int .u16)) a0))], 1⟩) hl ?_ ?_
    ·
     rintro ⟨⟩ xr12 h
     show aP _ _ _ _ _ ⟨tab [(0, .loc 0 0 a0.length), (3, vi i2), (4, .loc 0 i2.toNat ((a0.length : Int).toNat - i2.toNat)), (5, vi 1)], ac [(0, .lst true (some 8) (List.map (eA8 (D.int .u16)) a0))], 1⟩
     refine aN ?_
     refine ak ⟨tab [(0, .loc 0 0 a0.length), (3, vi i2), (4, .loc 0 i2.toNat ((a0.length : Int).toNat - i2.toNat)), (5, vi 1), (32, vb (decide (1 < (l11.length : Int))))], ac [(0, .lst true (some 8) (List.map (eA8 (D.int .u16)) a0))], 1⟩ ?_ ?_
     ·
      iterate 2 refine q1 _ ?_
      refine step (v := vi (l11.length : Int)) (rV (lo := i2) (hi := (a0.length : Int)) rfl hl11) ?_
      refine q1 _ ?_
      exact nR [0]
     by_cases hc13 : decide (1 < (l11.length : Int)) = true
     ·
      replace h := aG hc13 h
      refine aT (t := decide (1 < (l11.length : Int))) rfl hc13 ?_
      refine bm ?_
      cases h
     ·
      replace h := aH hc13 h
      refine aS (t := decide (1 < (l11.length : Int))) rfl hc13 ?_
      have hh := ap h
      subst hh
      refine aX (s0 := ⟨tab [(0, .loc 0 0 a0.length), (3, vi i2)], ac [(0, .lst true (some 8) (List.map (eA8 (D.int .u16)) a0))], 1⟩) (nr [0]) ?_
      refine cz ?_
      exact And.intro rfl rfl
    refine ak ⟨tab [(0, .loc 0 0 a0.length), (3, vi i2)], ac [(0, .lst true (some 8) (List.map (eA8 (D.int .u16)) (a0.take i2.toNat)))], 1⟩ ?_ ?_
    ·
     iterate 2 refine q1 _ ?_
     refine step (v := .loc 0 i2.toNat ((a0.length : Int).toNat - i2.toNat)) (jC (xs := a0) (e := (eA8 (D.int .u16))) hl11 rfl rfl rfl ⟨_, rfl⟩ rfl) ?_
     refine step (v := .d (.tup [])) (σ' := (al (ac [(0, .lst true (some 8) (List.map (eA8 (D.int .u16)) a0))]) 0 (some (.lst true (some 8) (List.map (eA8 (D.int .u16)) (a0.take i2.toNat)))))) (n' := 1) (rP (xs := a0) (e := (eA8 (D.int .u16))) rfl rfl (by have := iJ hl11; omega)) ?_
     exact nR [0]
    refine ak ⟨tab [(2, .loc 0 0 ((a0.take i2.toNat).length))], ac [(0, .lst true (some 8) (List.map (eA8 (D.int .u16)) (a0.take i2.toNat)))], 1⟩ ?_ ?_
    ·
     iterate 2 refine q1 _ ?_
     refine step (v := .loc 0 0 ((a0.take i2.toNat).length)) (rQ (xs := a0) (e := (eA8 (D.int .u16))) hl11 rfl rfl rfl rfl ⟨_, rfl⟩) ?_
     refine q1 _ ?_
     exact nR [0]
    obtain ⟨r14, kr14, hr⟩ := c5 (o := some (a0.take i2.toNat)) (g := Br.ret) h
    subst hr
    have h := kr14
    have hh := ap h
    subst hh
    refine aV ?_
    refine And.intro (fun hn => nomatch hn) ?_
    intro hq
    have hq := hq.symm
    subst hq
    exact ⟨.inr rfl, _, rfl, rfl, dp.sub ⟨rfl, trivial⟩, rfl⟩
   ·
    replace h := aH hc10 h
    refine aS (t := (x8 == x9)) rfl hc10 ?_
    refine bm ?_
    have hh := ap h
    subst hh
    refine bN ⟨tab [(0, .loc 0 0 a0.length), (3, vi (i2 + 1))], ac [(0, .lst true (some 8) (List.map (eA8 (D.int .u16)) a0))], 1⟩ ?_ ?_
    ·
     refine q1 _ ?_
     refine step (v := vi (i2 + 1)) (cM (cN hinv5 hgo4 hB3) rfl rfl) ?_
     refine q1 _ ?_
     exact nR [0]
    exact And.intro rfl rfl
  ·
   rintro i2 ⟨⟩ hinv5 hgo4
   show aP _ _ _ _ _ ⟨tab [(0, .loc 0 0 a0.length), (3, vi i2)], ac [(0, .lst true (some 8) (List.map (eA8 (D.int .u16)) a0))], 1⟩
   have hc6 : ¬ (decide (i2 < (a0.length : Int)) = true) := fun hq => hgo4 (of_decide_eq_true hq)
   refine aN ?_
   refine ak ⟨tab [(0, .loc 0 0 a0.length), (3, vi i2), (13, vb (decide (i2 < (a0.length : Int))))], ac [(0, .lst true (some 8) (List.map (eA8 (D.int .u16)) a0))], 1⟩ ?_ ?_
   ·
    iterate 4 refine q1 _ ?_
    exact nR [0]
   refine aS (t := decide (i2 < (a0.length : Int))) rfl hc6 ?_
   refine aX (s0 := ⟨tab [(0, .loc 0 0 a0.length)], ac [(0, .lst true (some 8) (List.map (eA8 (D.int .u16)) a0))], 1⟩) (nr [0]) ?_
   refine cz ?_
   exact And.intro rfl rfl
  ·
   intro r' hq
   subst hq
   exact ap h
  rintro ⟨⟩ rfl
  refine ak ⟨tab [(2, .loc 0 0 a0.length)], ac [(0, .lst true (some 8) (List.map (eA8 (D.int .u16)) a0))], 1⟩ ?_ ?_
  ·
   iterate 2 refine q1 _ ?_
   exact nR [0]
  have hh := ap h
  subst hh
  refine aV ?_
  exact ⟨.inr rfl, _, rfl, rfl, dp.sub ⟨rfl, trivial⟩, rfl⟩
theorem vQ {a0 : (List (A8 Int))} {r : (List (A8 Int))} (h : iR a0 = some r) : b4 Try.prog 101 [.d (eL (some 8) (eA8 (D.int .u16)) a0)] (ac []) 0 (.loc 0 0 r.length) (ac [(0, .lst true (some 8) (List.map (eA8 (D.int .u16)) r))]) 1 := by
 refine b4.introN (bl := []) (bl' := [(0, .lst true (some 8) (List.map (eA8 (D.int .u16)) r))]) ur (show 1 ≤ 9 by decide) rfl ?_
 refine aX (s0 := ⟨tab [(0, .d (eL (some 8) (eA8 (D.int .u16)) a0))], ac [], 0⟩) (nr []) ?_
 refine ak ⟨tab [(0, .d (eL (some 8) (eA8 (D.int .u16)) a0))], ac [], 0⟩ ?_ ?_
 ·
  refine q1 _ ?_
  exact nR []
 obtain ⟨r1, hr1, h⟩ := aq h
 refine ak ⟨tab [(0, .loc 0 0 r1.length)], ac [(0, .lst true (some 8) (List.map (eA8 (D.int .u16)) r1))], 1⟩ ?_ ?_
 ·
  refine q1 _ ?_
  refine fC (v := .loc 0 0 r1.length) (σ' := (al (ac []) 0 (some (.lst true (some 8) (List.map (eA8 (D.int .u16)) r1))))) (n' := 1) (f9 [] (vH hr1) (show 0 ≤ 1 by decide) (by decide) (show ∀ i ∈ [], i < 0 by decide) (gm (show 0 < 1 by decide) gn) (bR.c (.d _) bR.nil0) SN.nil0) (show 0 ≤ 1 by decide) ?_
  refine q1 _ ?_
  exact nR [0]
 obtain ⟨r2, hr2, h⟩ := aq h
 refine ak ⟨tab [(0, .loc 0 0 r2.length)], ac [(0, .lst true (some 8) (List.map (eA8 (D.int .u16)) r2))], 1⟩ ?_ ?_
 ·
  refine q1 _ ?_
  refine fC (v := .d (.tup [])) (σ' := (al (al (ac [(0, .lst true (some 8) (List.map (eA8 (D.int .u16)) r1))]) 0 none) 0 (some (.lst true (some 8) (List.map (eA8 (D.int .u16)) r2))))) (n' := 1) (f9 [0] (vM ⟨112, [], rfl, fun _ _ _ h => vO h⟩ hr2) (show 1 ≤ 1 by decide) (by decide) (show ∀ i ∈ [0], i < 1 by decide) (gm (show 0 < 1 by decide) gn) (bR.c (.lc 0) (bR.c (.d _) bR.nil0)) (SN.c (show 0 < 1 by decide) rfl (.lst _ _ _) SN.nil0)) (show 1 ≤ 1 by decide) ?_
  exact aU.nil' (nm [0] ⟨.le (id := 0) (te hr2).symm (show 0 < 1 by decide), trivial⟩ ⟨⟨show 0 < 1 by decide, _, rfl, .lst _ _ _⟩, trivial⟩)
 obtain ⟨r3, hr3, h⟩ := aq h
 refine ak ⟨tab [(2, .loc 0 0 r3.length)], ac [(0, .lst true (some 8) (List.map (eA8 (D.int .u16)) r3))], 1⟩ ?_ ?_
 ·
  refine q1 _ ?_
  refine fC (v := .loc 0 0 r3.length) (σ' := (al (al (ac [(0, .lst true (some 8) (List.map (eA8 (D.int .u16)) r2))]) 0 none) 0 (some (.lst true (some 8) (List.map (eA8 (D.int .u16)) r3))))) (n' := 1) (f9 [0] (vP hr3) (show 1 ≤ 1 by decide) (by decide) (show ∀ i ∈ [0], i < 1 by decide) (gm (show 0 < 1 by decide) gn) (bR.c (.lc 0) bR.nil0) (SN.c (show 0 < 1 by decide) rfl (.lst _ _ _) SN.nil0)) (show 1 ≤ 1 by decide) ?_
  refine q1 _ ?_
  exact nR [0]
 have hh := ap h
 subst hh
 refine aV ?_
 exact ⟨.inr rfl, _, rfl, rfl, dp.sub ⟨rfl, trivial⟩, rfl⟩
theorem pp {a0 : (List (A8 Int))} {r : (List (A8 Int))} (h : eX a0 = some r) : b4 Try.prog 79 [.d (eL (some 8) (eA8 (D.int .u16)) a0)] (ac []) 0 (.loc 0 0 r.length) (ac [(0, .lst true (some 8) (List.map (eA8 (D.int .u16)) r))]) 1 := by
 refine b4.introN (bl := []) (bl' := [(0, .lst true (some 8) (List.map (eA8 (D.int .u16)) r))]) uv (show 1 ≤ 11 by decide) rfl ?_
 refine aX (s0 := ⟨tab [(0, .d (eL (some 8) (eA8 (D.int .u16)) a0))], ac [], 0⟩) (nr []) ?_
 refine ak ⟨tab [(0, .d (eL (some 8) (eA8 (D.int .u16)) a0))], ac [], 0⟩ ?_ ?_
 ·
  refine q1 _ ?_
  exact nR []
 obtain ⟨r1, hr1, h⟩ := aq h
 refine ak ⟨tab [(0, .loc 0 0 r1.length)], ac [(0, .lst true (some 8) (List.map (eA8 (D.int .u16)) r1))], 1⟩ ?_ ?_
 ·
  refine q1 _ ?_
  refine fC (v := .loc 0 0 r1.length) (σ' := (al (ac []) 0 (some (.lst true (some 8) (List.map (eA8 (D.int .u16)) r1))))) (n' := 1) (f9 [] (vQ hr1) (show 0 ≤ 1 by decide) (by decide) (show ∀ i ∈ [], i < 0 by decide) (gm (show 0 < 1 by decide) gn) (bR.c (.d _) bR.nil0) SN.nil0) (show 0 ≤ 1 by decide) ?_
  refine q1 _ ?_
  exact nR [0]
 refine aN ?_
 refine ak ⟨tab [(0, .loc 0 0 r1.length), (7, vb (decide ((r1.length : Int) > 64)))], ac [(0, .lst true (some 8) (List.map (eA8 (D.int .u16)) r1))], 1⟩ ?_ ?_
 ·
  iterate 3 refine q1 _ ?_
  exact nR [0]
 by_cases hc2 : decide ((r1.length : Int) > 64) = true
 ·
  replace h := aG hc2 h
  refine aT (t := decide ((r1.length : Int) > 64)) rfl hc2 ?_
  cases h
 ·
  replace h := aH hc2 h
  refine aS (t := decide ((r1.length : Int) > 64)) rfl hc2 ?_
  refine bm ?_
  refine ak ⟨tab [(2, .loc 0 0 r1.length)], ac [(0, .lst true (some 8) (List.map (eA8 (D.int .u16)) r1))], 1⟩ ?_ ?_
  ·
   iterate 2 refine q1 _ ?_
   exact nR [0]
  have hh := ap h
  subst hh
  refine aV ?_
  exact ⟨.inr rfl, _, rfl, rfl, dp.sub ⟨rfl, trivial⟩, rfl⟩
theorem vR {self : aj → (List Int) → (A8 Int) → Option (List (A8 Int))} (hself : ∀ (a0 : aj) (a1 : (List Int)) (a2 : (A8 Int)) (r : (List (A8 Int))), self a0 a1 a2 = some r → PCall Try.prog 50 [bo a0, eL none (D.int .u16) a1, eA8 (D.int .u16) a2] (eL (some 8) (eA8 (D.int .u16)) r)) {a0 : aj} {a1 : (List Int)} {a2 : (A8 Int)} {r : (List (A8 Int))} (h : jU self a0 a1 a2 = some r) : PCall Try.prog 50 [bo a0, eL none (D.int .u16) a1, eA8 (D.int .u16) a2] (eL (some 8) (eA8 (D.int .u16)) r) := by
 refine PCall.introN uC (show 3 ≤ 108 by decide) ?_
 refine aX (s0 := ⟨tab [(0, vs1 a0), (1, bp a1), (2, .d (eA8 (D.int .u16) a2))], ac [], 0⟩) (nr []) ?_
 refine ak ⟨tab [(1, bp a1), (3, aI a0), (5, .d (.cptr (some 8) (eA8 (D.int .u16) a2) 0))], ac [], 0⟩ ?_ ?_
 ·
  iterate 3 refine q1 _ ?_
  exact nR []
 refine aN ?_
 refine ak ⟨tab [(1, bp a1), (3, aI a0), (5, .d (.cptr (some 8) (eA8 (D.int .u16) a2) 0)), (17, vi a0.Op)], ac [], 0⟩ ?_ ?_
 ·
  iterate 2 refine q1 _ ?_
  exact nR []
 refine bE ?_
 refine ak ⟨tab [(1, bp a1), (3, aI a0), (5, .d (.cptr (some 8) (eA8 (D.int .u16) a2) 0)), (17, vi a0.Op), (18, vb (a0.Op == 1))], ac [], 0⟩ ?_ ?_
 ·
  iterate 2 refine q1 _ ?_
  exact nR []
 by_cases hc1 : (a0.Op == 1) = true
 ·
  replace h := aG hc1 h
  refine aT (t := (a0.Op == 1)) rfl hc1 ?_
  obtain ⟨r2, hr2, h⟩ := aq h
  refine ak ⟨tab [(6, .d (eL (some 8) (eA8 (D.int .u16)) r2))], ac [], 0⟩ ?_ ?_
  ·
   refine q1 _ ?_
   refine a9 (r := eL (some 8) (eA8 (D.int .u16)) r2) (aF (aF aL.nil')) (hY hr2) ?_
   refine q1 _ ?_
   exact nR []
  have hh := ap h
  subst hh
  refine aV ?_
  show FQ _ _ _ _
  exact bh (.inr rfl) (bn (v := .d (eL (some 8) (eA8 (D.int .u16)) r2)) rfl rfl) (RV.d trivial)
 ·
  replace h := aH hc1 h
  refine aS (t := (a0.Op == 1)) rfl hc1 ?_
  refine ak ⟨tab [(1, bp a1), (3, aI a0), (5, .d (.cptr (some 8) (eA8 (D.int .u16) a2) 0)), (17, vi a0.Op), (22, vb (a0.Op == 2))], ac [], 0⟩ ?_ ?_
  ·
   iterate 2 refine q1 _ ?_
   exact nR []
  by_cases hc3 : (a0.Op == 2) = true
  ·
   replace h := aG hc3 h
   refine aT (t := (a0.Op == 2)) rfl hc3 ?_
   obtain ⟨x4, hx4, h⟩ := aq h
   obtain ⟨r5, hr5, h⟩ := aq h
   refine ak ⟨tab [(6, .d (eL (some 8) (eA8 (D.int .u16)) r5))], ac [], 0⟩ ?_ ?_
   ·
    iterate 2 refine q1 _ ?_
    refine step (v := .d (.cptr (some 8) (eA8 (D.int .u16) a2) (0 + a0.F.toNat * 1))) (lh (xs := a2.l) hx4 rfl rfl rfl) ?_
    refine step (v := vh x4) (lb rfl (k9 (e := (D.int .u16)) (xs := a2.l) (pre := []) (post := []) hx4 rfl (by decide))) ?_
    iterate 4 refine q1 _ ?_
    refine a9 (r := eL (some 8) (eA8 (D.int .u16)) r5) (aF (aF aL.nil')) (hY hr5) ?_
    refine q1 _ ?_
    exact nR []
   have hh := ap h
   subst hh
   refine aV ?_
   show FQ _ _ _ _
   exact bh (.inr rfl) (bn (v := .d (eL (some 8) (eA8 (D.int .u16)) r5)) rfl rfl) (RV.d trivial)
  ·
   replace h := aH hc3 h
   refine aS (t := (a0.Op == 2)) rfl hc3 ?_
   refine ak ⟨tab [(1, bp a1), (3, aI a0), (5, .d (.cptr (some 8) (eA8 (D.int .u16) a2) 0)), (17, vi a0.Op), (33, vb (a0.Op == 3))], ac [], 0⟩ ?_ ?_
   ·
    iterate 2 refine q1 _ ?_
    exact nR []
   by_cases hc6 : (a0.Op == 3) = true
   ·
    replace h := aG hc6 h
    refine aT (t := (a0.Op == 3)) rfl hc6 ?_
    obtain ⟨r7, hr7, h⟩ := aq h
    obtain ⟨r8, hr8, h⟩ := aq h
    refine ak ⟨tab [(6, .d (eL (some 8) (eA8 (D.int .u16)) r8))], ac [], 0⟩ ?_ ?_
    ·
     iterate 2 refine q1 _ ?_
     refine a9 (r := .bool r7) (aF (aF aL.nil')) (vE hr7) ?_
     refine q1 _ ?_
     refine a9 (r := eL (some 8) (eA8 (D.int .u16)) r8) (aF (aF aL.nil')) (hY hr8) ?_
     refine q1 _ ?_
     exact nR []
    have hh := ap h
    subst hh
    refine aV ?_
    show FQ _ _ _ _
    exact bh (.inr rfl) (bn (v := .d (eL (some 8) (eA8 (D.int .u16)) r8)) rfl rfl) (RV.d trivial)
   ·
    replace h := aH hc6 h
    refine aS (t := (a0.Op == 3)) rfl hc6 ?_
    refine ak ⟨tab [(1, bp a1), (3, aI a0), (5, .d (.cptr (some 8) (eA8 (D.int .u16) a2) 0)), (17, vi a0.Op), (40, vb (a0.Op == 4))], ac [], 0⟩ ?_ ?_
    ·
     iterate 2 refine q1 _ ?_
     exact nR []
    by_cases hc9 : (a0.Op == 4) = true
    ·
     replace h := aG hc9 h
     refine aT (t := (a0.Op == 4)) rfl hc9 ?_
     obtain ⟨x10, hx10, h⟩ := aq h
     obtain ⟨r11, hr11, h⟩ := aq h
     obtain ⟨r12, hr12, h⟩ := aq h
     refine ak ⟨tab [(6, .d (eL (some 8) (eA8 (D.int .u16)) r12))], ac [], 0⟩ ?_ ?_
     ·
      iterate 2 refine q1 _ ?_
      refine step (v := aI x10) (dq (xs := a0.Kids) (e := aC) hx10 rfl rfl (bP _)) ?_
      iterate 3 refine q1 _ ?_
      refine a9 (r := eL (some 8) (eA8 (D.int .u16)) r11) (aF (aF (aF aL.nil'))) (hself _ _ _ _ hr11) ?_
      refine step (v := vi (r11.length : Int)) (bI (xs := r11) (e := (eA8 (D.int .u16))) rfl) ?_
      iterate 2 refine q1 _ ?_
      refine a9 (r := eL (some 8) (eA8 (D.int .u16)) r12) (aF (aF aL.nil')) (hY hr12) ?_
      refine q1 _ ?_
      exact nR []
     have hh := ap h
     subst hh
     refine aV ?_
     show FQ _ _ _ _
     exact bh (.inr rfl) (bn (v := .d (eL (some 8) (eA8 (D.int .u16)) r12)) rfl rfl) (RV.d trivial)
    ·
     replace h := aH hc9 h
     refine aS (t := (a0.Op == 4)) rfl hc9 ?_
     refine ak ⟨tab [(1, bp a1), (3, aI a0), (5, .d (.cptr (some 8) (eA8 (D.int .u16) a2) 0)), (17, vi a0.Op), (53, vb (a0.Op == 5))], ac [], 0⟩ ?_ ?_
     ·
      iterate 2 refine q1 _ ?_
      exact nR []
     by_cases hc13 : (a0.Op == 5) = true
     ·
      replace h := aG hc13 h
      refine aT (t := (a0.Op == 5)) rfl hc13 ?_
      obtain ⟨r14, hr14, h⟩ := aq h
      obtain ⟨r15, hr15, h⟩ := aq h
      refine ak ⟨tab [(6, .d (eL (some 8) (eA8 (D.int .u16)) r15))], ac [], 0⟩ ?_ ?_
      ·
       iterate 5 refine q1 _ ?_
       refine a9 (r := eA8 (D.int .u16) r14) (aF (aF (aF aL.nil'))) (vG hr14) ?_
       refine a9 (r := eL (some 8) (eA8 (D.int .u16)) r15) (aF (aF aL.nil')) (hY hr15) ?_
       refine q1 _ ?_
       exact nR []
      have hh := ap h
      subst hh
      refine aV ?_
      show FQ _ _ _ _
      exact bh (.inr rfl) (bn (v := .d (eL (some 8) (eA8 (D.int .u16)) r15)) rfl rfl) (RV.d trivial)
     ·
      replace h := aH hc13 h
      refine aS (t := (a0.Op == 5)) rfl hc13 ?_
      refine ak ⟨tab [(1, bp a1), (3, aI a0), (5, .d (.cptr (some 8) (eA8 (D.int .u16) a2) 0)), (17, vi a0.Op), (62, vb (a0.Op == 7))], ac [], 0⟩ ?_ ?_
      ·
       iterate 2 refine q1 _ ?_
       exact nR []
      by_cases hc16 : (a0.Op == 7) = true
      ·
       replace h := aG hc16 h
       refine aT (t := (a0.Op == 7)) rfl hc16 ?_
       refine ak ⟨tab [(1, bp a1), (3, aI a0), (5, .d (.cptr (some 8) (eA8 (D.int .u16) a2) 0)), (7, .d (.nils))], ac [], 0⟩ ?_ ?_
       ·
        refine q1 _ ?_
        exact nR []
       refine aN ?_
       refine ak ⟨tab [(1, bp a1), (5, .d (.cptr (some 8) (eA8 (D.int .u16) a2) 0)), (7, .d (.nils)), (65, aE a0.Kids), (66, vi (a0.Kids.length : Int)), (67, vi 0)], ac [], 0⟩ ?_ ?_
       ·
        iterate 2 refine q1 _ ?_
        refine step (v := vi (a0.Kids.length : Int)) (bI (xs := a0.Kids) (e := aC) rfl) ?_
        refine q1 _ ?_
        exact nR []
       obtain ⟨z28, hl, h⟩ := aq h
       refine aX (s0 := ⟨tab [(1, bp a1), (5, .d (.cptr (some 8) (eA8 (D.int .u16) a2) 0)), (7, .loc 0 0 (([] : List (A8 Int)).length)), (65, aE a0.Kids), (66, vi (a0.Kids.length : Int)), (67, vi 0)], ac [(0, .lst false (some 8) (List.map (eA8 (D.int .u16)) ([] : List (A8 Int))))], 1⟩) (bU.trans (s2 := ⟨tab [(1, bp a1), (5, .d (.cptr (some 8) (eA8 (D.int .u16) a2) 0)), (7, .loc 0 0 (([] : List (A8 Int)).length)), (65, aE a0.Kids), (66, vi (a0.Kids.length : Int)), (67, vi 0)], ac [(0, .lst false (some 8) (List.map (eA8 (D.int .u16)) ([] : List (A8 Int))))], 1⟩) (jD 7 false (some 8) rfl) (nr [0])) ?_
       refine bE ?_
       refine ft (cK (a0.Kids.length : Int)) (fun (i18 : Int) (qq : (List (A8 Int))) => ⟨tab [(1, bp a1), (5, .d (.cptr (some 8) (eA8 (D.int .u16) a2) 0)), (7, .loc 0 0 qq.length), (65, aE a0.Kids), (66, vi (a0.Kids.length : Int)), (67, vi i18)], ac [(0, .lst false (some 8) (List.map (eA8 (D.int .u16)) qq))], 1⟩) 1 (fun (qq : (List (A8 Int))) => ⟨tab [(7, .loc 0 0 qq.length)], ac [(0, .lst false (some 8) (List.map (eA8 (D.int .u16)) qq))], 1⟩) bJ cL hl (by unfold bJ; omega) ?_ ?_ ?_
       ·
        rintro i18 l17 xr23 hinv21 hgo20 h
        show aP _ _ _ _ _ ⟨tab [(1, bp a1), (5, .d (.cptr (some 8) (eA8 (D.int .u16) a2) 0)), (7, .loc 0 0 l17.length), (65, aE a0.Kids), (66, vi (a0.Kids.length : Int)), (67, vi i18)], ac [(0, .lst false (some 8) (List.map (eA8 (D.int .u16)) l17))], 1⟩
        have hc22 : decide (i18 < (a0.Kids.length : Int)) = true := decide_eq_true hgo20
        refine ak ⟨tab [(1, bp a1), (5, .d (.cptr (some 8) (eA8 (D.int .u16) a2) 0)), (7, .loc 0 0 l17.length), (65, aE a0.Kids), (66, vi (a0.Kids.length : Int)), (67, vi i18), (68, vb (decide (i18 < (a0.Kids.length : Int))))], ac [(0, .lst false (some 8) (List.map (eA8 (D.int .u16)) l17))], 1⟩ ?_ ?_
        ·
         refine q1 _ ?_
         exact nR [0]
        refine cJ 66 rfl fun hB19 => ?_
        refine aN ?_
        refine aT (t := decide (i18 < (a0.Kids.length : Int))) rfl hc22 ?_
        refine bm ?_
        refine aN ?_
        refine bE ?_
        obtain ⟨x24, hx24, h⟩ := aq h
        refine ak ⟨tab [(1, bp a1), (5, .d (.cptr (some 8) (eA8 (D.int .u16) a2) 0)), (7, .loc 0 0 l17.length), (9, .ptr 1 0 0), (65, aE a0.Kids), (66, vi (a0.Kids.length : Int)), (67, vi i18)], ac [(0, .lst false (some 8) (List.map (eA8 (D.int .u16)) l17)), (1, bY x24)], 2⟩ ?_ ?_
        ·
         refine step (v := aI x24) (dq (xs := a0.Kids) (e := aC) hx24 rfl rfl (bP _)) ?_
         refine q1 _ ?_
         refine step (v := .ptr 1 0 0) (σ' := (al (ac [(0, .lst false (some 8) (List.map (eA8 (D.int .u16)) l17))]) 1 (some (bk)))) (n' := 2) rfl ?_
         refine step (v := V.undef) (σ' := (al (al (ac [(0, .lst false (some 8) (List.map (eA8 (D.int .u16)) l17))]) 1 (some (bk))) 1 (some (bY x24)))) (n' := 2) rfl ?_
         exact nR [0, 1]
        obtain ⟨r25, hr25, h⟩ := aq h
        obtain ⟨l26, hl26, h⟩ := aq h
        obtain ⟨r27, hr27, h⟩ := aq h
        refine bN ⟨tab [(1, bp a1), (5, .d (.cptr (some 8) (eA8 (D.int .u16) a2) 0)), (7, .loc 0 0 r27.length), (65, aE a0.Kids), (66, vi (a0.Kids.length : Int)), (67, vi i18)], ac [(0, .lst false (some 8) (List.map (eA8 (D.int .u16)) r27))], 1⟩ ?_ ?_
        ·
         refine q1 _ ?_
         refine step (v := vs1 x24) (bS (ds := [.int .i64 x24.Op, .int .i64 x24.F, .int .u16 x24.N, eL (some 4) aC x24.Kids]) rfl rfl (show 4 ≤ 4 by decide) rfl) ?_
         iterate 2 refine q1 _ ?_
         refine a9 (r := eL (some 8) (eA8 (D.int .u16)) r25) (aF (aF (aF aL.nil'))) (hself _ _ _ _ hr25) ?_
         refine step (v := .loc 2 0 l26.length) (σ' := (al (al (ac [(0, .lst false (some 8) (List.map (eA8 (D.int .u16)) l17)), (1, bY x24)]) 0 none) 2 (some (.lst false (some 8) (List.map (eA8 (D.int .u16)) l26))))) (n' := 3) (gj (xs := l17) (ys := r25) (e := (eA8 (D.int .u16))) hl26 rfl rfl rfl (gR (xs := r25) (e := (eA8 (D.int .u16))) rfl)) ?_
         refine fC (v := .loc 3 0 r27.length) (σ' := (al (al (al (ac [(0, .lst false (some 8) (List.map (eA8 (D.int .u16)) l17)), (1, bY x24)]) 0 none) 2 (some (.lst false (some 8) (List.map (eA8 (D.int .u16)) l26)))) 3 (some (.lst false (some 8) (List.map (eA8 (D.int .u16)) r27))))) (n' := 4) (b4.sees (f9 [] (b4.frz (pp hr27)) (show 0 ≤ 1 by decide) (by decide) (show ∀ i ∈ [], i < 3 by decide) (gm (show 0 < 1 by decide) gn) (bR.c (.d _) bR.nil0) SN.nil0) ⟨.inr ⟨_, (rZ (xs := l26) (e := (eA8 (D.int .u16))) rfl rfl), rfl⟩, trivial⟩) (show 3 ≤ 4 by decide) ?_
         refine q1 _ ?_
         exact nR [3]
        have hh := ap h
        subst hh
        refine bN ⟨tab [(1, bp a1), (5, .d (.cptr (some 8) (eA8 (D.int .u16) a2) 0)), (7, .loc 0 0 r27.length), (65, aE a0.Kids), (66, vi (a0.Kids.length : Int)), (67, vi (i18 + 1))], ac [(0, .lst false (some 8) (List.map (eA8 (D.int .u16)) r27))], 1⟩ ?_ ?_
        ·
         refine step (v := vi (i18 + 1)) (cM (cN hinv21 hgo20 hB19) rfl rfl) ?_
         refine q1 _ ?_
         exact nR [0]
        exact And.intro rfl rfl
       ·
        rintro i18 l17 hinv21 hgo20
        show aP _ _ _ _ _ ⟨tab [(1, bp a1), (5, .d (.cptr (some 8) (eA8 (D.int .u16) a2) 0)), (7, .loc 0 0 l17.length), (65, aE a0.Kids), (66, vi (a0.Kids.length : Int)), (67, vi i18)], ac [(0, .lst false (some 8) (List.map (eA8 (D.int .u16)) l17))], 1⟩
        have hc22 : ¬ (decide (i18 < (a0.Kids.length : Int)) = true) := fun hq => hgo20 (of_decide_eq_true hq)
        refine ak ⟨tab [(1, bp a1), (5, .d (.cptr (some 8) (eA8 (D.int .u16) a2) 0)), (7, .loc 0 0 l17.length), (65, aE a0.Kids), (66, vi (a0.Kids.length : Int)), (67, vi i18), (68, vb (decide (i18 < (a0.Kids.length : Int))))], ac [(0, .lst false (some 8) (List.map (eA8 (D.int .u16)) l17))], 1⟩ ?_ ?_
        ·
         refine q1 _ ?_
         exact nR [0]
        refine aN ?_
        refine aS (t := decide (i18 < (a0.Kids.length : Int))) rfl hc22 ?_
        refine aX (s0 := ⟨tab [(7, .loc 0 0 l17.length)], ac [(0, .lst false (some 8) (List.map (eA8 (D.int .u16)) l17))], 1⟩) (nr [0]) ?_
        refine cz ?_
        exact And.intro rfl rfl
       refine ak ⟨tab [(6, .loc 0 0 z28.length)], ac [(0, .lst false (some 8) (List.map (eA8 (D.int .u16)) z28))], 1⟩ ?_ ?_
       ·
        iterate 2 refine q1 _ ?_
        exact nR [0]
       have hh := ap h
       subst hh
       refine aV ?_
       show FQ _ _ _ _
       exact bh (.inr rfl) (bn (v := .loc 0 0 z28.length) rfl rfl) (RV.loc (xs := z28) (e := (eA8 (D.int .u16))) rfl rfl trivial)
      ·
       replace h := aH hc16 h
       refine aS (t := (a0.Op == 7)) rfl hc16 ?_
       refine ak ⟨tab [(1, bp a1), (3, aI a0), (5, .d (.cptr (some 8) (eA8 (D.int .u16) a2) 0)), (80, vb (a0.Op == 6))], ac [], 0⟩ ?_ ?_
       ·
        iterate 2 refine q1 _ ?_
        exact nR []
       by_cases hc30 : (a0.Op == 6) = true
       ·
        replace h := aG hc30 h
        refine aT (t := (a0.Op == 6)) rfl hc30 ?_
        obtain ⟨r31, hr31, h⟩ := aq h
        refine ak ⟨tab [(1, bp a1), (3, aI a0), (10, .d (eL (some 8) (eA8 (D.int .u16)) r31))], ac [], 0⟩ ?_ ?_
        ·
         refine q1 _ ?_
         refine a9 (r := eL (some 8) (eA8 (D.int .u16)) r31) (aF (aF aL.nil')) (hY hr31) ?_
         refine q1 _ ?_
         exact nR []
        refine aN ?_
        refine ak ⟨tab [(1, bp a1), (10, .d (eL (some 8) (eA8 (D.int .u16)) r31)), (85, aE a0.Kids), (86, vi (a0.Kids.length : Int)), (87, vi 0)], ac [], 0⟩ ?_ ?_
        ·
         iterate 2 refine q1 _ ?_
         refine step (v := vi (a0.Kids.length : Int)) (bI (xs := a0.Kids) (e := aC) rfl) ?_
         refine q1 _ ?_
         exact nR []
        obtain ⟨z53, hl, h⟩ := aq h
        refine bE ?_
        refine ft (cK (a0.Kids.length : Int)) (fun (i33 : Int) (qq : (List (A8 Int))) => ⟨tab [(1, bp a1), (10, .d (eL (some 8) (eA8 (D.int .u16)) qq)), (85, aE a0.Kids), (86, vi (a0.Kids.length : Int)), (87, vi i33)], ac [], 0⟩) 3 (fun (qq : (List (A8 Int))) => ⟨tab [(10, .d (eL (some 8) (eA8 (D.int .u16)) qq))], ac [], 0⟩) bJ cL hl (by unfold bJ; omega) ?_ ?_ ?_
        ·
         rintro i33 y32 xr38 hinv36 hgo35 h
         show aP _ _ _ _ _ ⟨tab [(1, bp a1), (10, .d (eL (some 8) (eA8 (D.int .u16)) y32)), (85, aE a0.Kids), (86, vi (a0.Kids.length : Int)), (87, vi i33)], ac [], 0⟩
         have hc37 : decide (i33 < (a0.Kids.length : Int)) = true := decide_eq_true hgo35
         refine ak ⟨tab [(1, bp a1), (10, .d (eL (some 8) (eA8 (D.int .u16)) y32)), (85, aE a0.Kids), (86, vi (a0.Kids.length : Int)), (87, vi i33), (88, vb (decide (i33 < (a0.Kids.length : Int))))], ac [], 0⟩ ?_ ?_
         ·
          refine q1 _ ?_
          exact nR []
         refine cJ 86 rfl fun hB34 => ?_
         refine aN ?_
         refine aT (t := decide (i33 < (a0.Kids.length : Int))) rfl hc37 ?_
         refine bm ?_
         refine aN ?_
         refine bE ?_
         obtain ⟨x39, hx39, h⟩ := aq h
         refine ak ⟨tab [(1, bp a1), (10, .d (eL (some 8) (eA8 (D.int .u16)) y32)), (12, .ptr 0 0 0), (85, aE a0.Kids), (86, vi (a0.Kids.length : Int)), (87, vi i33)], ac [(0, bY x39)], 1⟩ ?_ ?_
         ·
          refine step (v := aI x39) (dq (xs := a0.Kids) (e := aC) hx39 rfl rfl (bP _)) ?_
          refine q1 _ ?_
          refine step (v := .ptr 0 0 0) (σ' := (al (ac []) 0 (some (bk)))) (n' := 1) rfl ?_
          refine step (v := V.undef) (σ' := (al (al (ac []) 0 (some (bk))) 0 (some (bY x39)))) (n' := 1) rfl ?_
          exact nR [0]
         refine ak ⟨tab [(1, bp a1), (10, .d (eL (some 8) (eA8 (D.int .u16)) y32)), (12, .ptr 0 0 0), (13, .d (.nils)), (85, aE a0.Kids), (86, vi (a0.Kids.length : Int)), (87, vi i33)], ac [(0, bY x39)], 1⟩ ?_ ?_
         ·
          refine q1 _ ?_
          exact nR [0]
         refine aN ?_
         refine ak ⟨tab [(1, bp a1), (12, .ptr 0 0 0), (13, .d (.nils)), (85, aE a0.Kids), (86, vi (a0.Kids.length : Int)), (87, vi i33), (91, .d (eL (some 8) (eA8 (D.int .u16)) y32)), (92, vi (y32.length : Int)), (93, vi 0)], ac [(0, bY x39)], 1⟩ ?_ ?_
         ·
          refine q1 _ ?_
          refine step (v := vi (y32.length : Int)) (bI (xs := y32) (e := (eA8 (D.int .u16))) rfl) ?_
          refine q1 _ ?_
          exact nR [0]
         obtain ⟨z50, hl, h⟩ := aq h
         refine aX (s0 := ⟨tab [(1, bp a1), (12, .ptr 0 0 0), (13, .loc 1 0 (([] : List (A8 Int)).length)), (85, aE a0.Kids), (86, vi (a0.Kids.length : Int)), (87, vi i33), (91, .d (eL (some 8) (eA8 (D.int .u16)) y32)), (92, vi (y32.length : Int)), (93, vi 0)], ac [(0, bY x39), (1, .lst false (some 8) (List.map (eA8 (D.int .u16)) ([] : List (A8 Int))))], 2⟩) (bU.trans (s2 := ⟨tab [(1, bp a1), (12, .ptr 0 0 0), (13, .loc 1 0 (([] : List (A8 Int)).length)), (85, aE a0.Kids), (86, vi (a0.Kids.length : Int)), (87, vi i33), (91, .d (eL (some 8) (eA8 (D.int .u16)) y32)), (92, vi (y32.length : Int)), (93, vi 0)], ac [(0, bY x39), (1, .lst false (some 8) (List.map (eA8 (D.int .u16)) ([] : List (A8 Int))))], 2⟩) (jD 13 false (some 8) rfl) (nr [0, 1])) ?_
         refine bE ?_
         refine ft (cK (y32.length : Int)) (fun (i41 : Int) (qq : (List (A8 Int))) => ⟨tab [(1, bp a1), (12, .ptr 0 0 0), (13, .loc 1 0 qq.length), (85, aE a0.Kids), (86, vi (a0.Kids.length : Int)), (87, vi i33), (91, .d (eL (some 8) (eA8 (D.int .u16)) y32)), (92, vi (y32.length : Int)), (93, vi i41)], ac [(0, bY x39), (1, .lst false (some 8) (List.map (eA8 (D.int .u16)) qq))], 2⟩) 5 (fun (qq : (List (A8 Int))) => ⟨tab [(1, bp a1), (13, .loc 0 0 qq.length), (85, aE a0.Kids), (86, vi (a0.Kids.length : Int)), (87, vi i33)], ac [(0, .lst false (some 8) (List.map (eA8 (D.int .u16)) qq))], 1⟩) bJ cL hl (by unfold bJ; omega) ?_ ?_ ?_
         ·
          rintro i41 l40 xr46 hinv44 hgo43 h
          show aP _ _ _ _ _ ⟨tab [(1, bp a1), (12, .ptr 0 0 0), (13, .loc 1 0 l40.length), (85, aE a0.Kids), (86, vi (a0.Kids.length : Int)), (87, vi i33), (91, .d (eL (some 8) (eA8 (D.int .u16)) y32)), (92, vi (y32.length : Int)), (93, vi i41)], ac [(0, bY x39), (1, .lst false (some 8) (List.map (eA8 (D.int .u16)) l40))], 2⟩
          have hc45 : decide (i41 < (y32.length : Int)) = true := decide_eq_true hgo43
          refine ak ⟨tab [(1, bp a1), (12, .ptr 0 0 0), (13, .loc 1 0 l40.length), (85, aE a0.Kids), (86, vi (a0.Kids.length : Int)), (87, vi i33), (91, .d (eL (some 8) (eA8 (D.int .u16)) y32)), (92, vi (y32.length : Int)), (93, vi i41), (94, vb (decide (i41 < (y32.length : Int))))], ac [(0, bY x39), (1, .lst false (some 8) (List.map (eA8 (D.int .u16)) l40))], 2⟩ ?_ ?_
          ·
           refine q1 _ ?_
           exact nR [0, 1]
          refine cJ 92 rfl fun hB42 => ?_
          refine aN ?_
          refine aT (t := decide (i41 < (y32.length : Int))) rfl hc45 ?_
          refine bm ?_
          refine aN ?_
          refine bE ?_
          obtain ⟨x47, hx47, h⟩ := aq h
          refine ak ⟨tab [(1, bp a1), (12, .ptr 0 0 0), (13, .loc 1 0 l40.length), (15, .ptr 2 0 0), (85, aE a0.Kids), (86, vi (a0.Kids.length : Int)), (87, vi i33), (91, .d (eL (some 8) (eA8 (D.int .u16)) y32)), (92, vi (y32.length : Int)), (93, vi i41)], ac [(0, bY x39), (1, .lst false (some 8) (List.map (eA8 (D.int .u16)) l40)), (2, .var [vh x47.a0, vh x47.a1, vh x47.a2, vh x47.a3, vh x47.a4, vh x47.a5, vh x47.a6, vh x47.a7])], 3⟩ ?_ ?_
          ·
           refine step (v := .d (.cptr (some 8) (eA8 (D.int .u16) x47) 0)) (cZ (xs := y32) (e := (eA8 (D.int .u16))) hx47 rfl rfl) ?_
           refine q1 _ ?_
           refine step (v := .ptr 2 0 0) (σ' := (al (ac [(0, bY x39), (1, .lst false (some 8) (List.map (eA8 (D.int .u16)) l40))]) 2 (some (fd)))) (n' := 3) rfl ?_
           refine step (v := V.undef) (σ' := (al (al (ac [(0, bY x39), (1, .lst false (some 8) (List.map (eA8 (D.int .u16)) l40))]) 2 (some (fd))) 2 (some (.var [vh x47.a0, vh x47.a1, vh x47.a2, vh x47.a3, vh x47.a4, vh x47.a5, vh x47.a6, vh x47.a7])))) (n' := 3) rfl ?_
           exact nR [0, 1, 2]
          obtain ⟨r48, hr48, h⟩ := aq h
          obtain ⟨l49, hl49, h⟩ := aq h
          refine bN ⟨tab [(1, bp a1), (12, .ptr 0 0 0), (13, .loc 1 0 l49.length), (85, aE a0.Kids), (86, vi (a0.Kids.length : Int)), (87, vi i33), (91, .d (eL (some 8) (eA8 (D.int .u16)) y32)), (92, vi (y32.length : Int)), (93, vi i41)], ac [(0, bY x39), (1, .lst false (some 8) (List.map (eA8 (D.int .u16)) l49))], 2⟩ ?_ ?_
          ·
           refine q1 _ ?_
           refine step (v := vs1 x39) (bS (ds := [.int .i64 x39.Op, .int .i64 x39.F, .int .u16 x39.N, eL (some 4) aC x39.Kids]) rfl rfl (show 4 ≤ 4 by decide) rfl) ?_
           refine q1 _ ?_
           refine step (v := .d (eA8 (D.int .u16) x47)) (bS (ds := [.int .u16 x47.a0, .int .u16 x47.a1, .int .u16 x47.a2, .int .u16 x47.a3, .int .u16 x47.a4, .int .u16 x47.a5, .int .u16 x47.a6, .int .u16 x47.a7]) rfl rfl (show 8 ≤ 8 by decide) rfl) ?_
           refine a9 (r := eL (some 8) (eA8 (D.int .u16)) r48) (aF (aF (aF aL.nil'))) (hself _ _ _ _ hr48) ?_
           refine step (v := .loc 3 0 l49.length) (σ' := (al (al (ac [(0, bY x39), (1, .lst false (some 8) (List.map (eA8 (D.int .u16)) l40)), (2, .var [vh x47.a0, vh x47.a1, vh x47.a2, vh x47.a3, vh x47.a4, vh x47.a5, vh x47.a6, vh x47.a7])]) 1 none) 3 (some (.lst false (some 8) (List.map (eA8 (D.int .u16)) l49))))) (n' := 4) (gj (xs := l40) (ys := r48) (e := (eA8 (D.int .u16))) hl49 rfl rfl rfl (gR (xs := r48) (e := (eA8 (D.int .u16))) rfl)) ?_
           refine q1 _ ?_
           exact nR [0, 3]
          have hh := ap h
          subst hh
          refine bN ⟨tab [(1, bp a1), (12, .ptr 0 0 0), (13, .loc 1 0 l49.length), (85, aE a0.Kids), (86, vi (a0.Kids.length : Int)), (87, vi i33), (91, .d (eL (some 8) (eA8 (D.int .u16)) y32)), (92, vi (y32.length : Int)), (93, vi (i41 + 1))], ac [(0, bY x39), (1, .lst false (some 8) (List.map (eA8 (D.int .u16)) l49))], 2⟩ ?_ ?_
          ·
           refine step (v := vi (i41 + 1)) (cM (cN hinv44 hgo43 hB42) rfl rfl) ?_
           refine q1 _ ?_
           exact nR [0, 1]
          exact And.intro rfl rfl
         ·
          rintro i41 l40 hinv44 hgo43
          show aP _ _ _ _ _ ⟨tab [(1, bp a1), (12, .ptr 0 0 0), (13, .loc 1 0 l40.length), (85, aE a0.Kids), (86, vi (a0.Kids.length : Int)), (87, vi i33), (91, .d (eL (some 8) (eA8 (D.int .u16)) y32)), (92, vi (y32.length : Int)), (93, vi i41)], ac [(0, bY x39), (1, .lst false (some 8) (List.map (eA8 (D.int .u16)) l40))], 2⟩
          have hc45 : ¬ (decide (i41 < (y32.length : Int)) = true) := fun hq => hgo43 (of_decide_eq_true hq)
          refine ak ⟨tab [(1, bp a1), (12, .ptr 0 0 0), (13, .loc 1 0 l40.length), (85, aE a0.Kids), (86, vi (a0.Kids.length : Int)), (87, vi i33), (91, .d (eL (some 8) (eA8 (D.int .u16)) y32)), (92, vi (y32.length : Int)), (93, vi i41), (94, vb (decide (i41 < (y32.length : Int))))], ac [(0, bY x39), (1, .lst false (some 8) (List.map (eA8 (D.int .u16)) l40))], 2⟩ ?_ ?_
          ·
           refine q1 _ ?_
           exact nR [0, 1]
          refine aN ?_
          refine aS (t := decide (i41 < (y32.length : Int))) rfl hc45 ?_
          refine aX (s0 := ⟨tab [(1, bp a1), (13, .loc 0 0 l40.length), (85, aE a0.Kids), (86, vi (a0.Kids.length : Int)), (87, vi i33)], ac [(0, .lst false (some 8) (List.map (eA8 (D.int .u16)) l40))], 1⟩) (nr [1]) ?_
          refine cz ?_
          exact And.intro rfl rfl
         obtain ⟨r51, hr51, h⟩ := aq h
         refine bN ⟨tab [(1, bp a1), (10, .d (eL (some 8) (eA8 (D.int .u16)) r51)), (85, aE a0.Kids), (86, vi (a0.Kids.length : Int)), (87, vi i33)], ac [], 0⟩ ?_ ?_
         ·
          refine q1 _ ?_
          refine fC (v := .d (eL (some 8) (eA8 (D.int .u16)) r51)) (σ' := _) (n' := _) (ta (s9 (ds := [eL (some 8) (eA8 (D.int .u16)) z50]) (pp hr51) (by simp)) (rY (xs := z50) (e := (eA8 (D.int .u16))) rfl rfl aL.nil')) (Nat.le_refl _) ?_
          refine q1 _ ?_
          exact nR []
         have hh := ap h
         subst hh
         refine bN ⟨tab [(1, bp a1), (10, .d (eL (some 8) (eA8 (D.int .u16)) r51)), (85, aE a0.Kids), (86, vi (a0.Kids.length : Int)), (87, vi (i33 + 1))], ac [], 0⟩ ?_ ?_
         ·
          refine step (v := vi (i33 + 1)) (cM (cN hinv36 hgo35 hB34) rfl rfl) ?_
          refine q1 _ ?_
          exact nR []
         exact And.intro rfl rfl
        ·
         rintro i33 y32 hinv36 hgo35
         show aP _ _ _ _ _ ⟨tab [(1, bp a1), (10, .d (eL (some 8) (eA8 (D.int .u16)) y32)), (85, aE a0.Kids), (86, vi (a0.Kids.length : Int)), (87, vi i33)], ac [], 0⟩
         have hc37 : ¬ (decide (i33 < (a0.Kids.length : Int)) = true) := fun hq => hgo35 (of_decide_eq_true hq)
         refine ak ⟨tab [(1, bp a1), (10, .d (eL (some 8) (eA8 (D.int .u16)) y32)), (85, aE a0.Kids), (86, vi (a0.Kids.length : Int)), (87, vi i33), (88, vb (decide (i33 < (a0.Kids.length : Int))))], ac [], 0⟩ ?_ ?_
         ·
          refine q1 _ ?_
          exact nR []
         refine aN ?_
         refine aS (t := decide (i33 < (a0.Kids.length : Int))) rfl hc37 ?_
         refine aX (s0 := ⟨tab [(10, .d (eL (some 8) (eA8 (D.int .u16)) y32))], ac [], 0⟩) (nr []) ?_
         refine cz ?_
         exact And.intro rfl rfl
        refine ak ⟨tab [(6, .d (eL (some 8) (eA8 (D.int .u16)) z53))], ac [], 0⟩ ?_ ?_
        ·
         iterate 2 refine q1 _ ?_
         exact nR []
        have hh := ap h
        subst hh
        refine aV ?_
        show FQ _ _ _ _
        exact bh (.inr rfl) (bn (v := .d (eL (some 8) (eA8 (D.int .u16)) z53)) rfl rfl) (RV.d trivial)
       ·
        replace h := aH hc30 h
        refine aS (t := (a0.Op == 6)) rfl hc30 ?_
        refine bm ?_
        refine ak ⟨tab [(6, .d (eL (some 8) (eA8 (D.int .u16)) ([] : List (A8 Int))))], ac [], 0⟩ ?_ ?_
        ·
         refine q1 _ ?_
         exact nR []
        have hh := ap h
        subst hh
        refine aV ?_
        show FQ _ _ _ _
        exact bh (.inr rfl) (bn (v := .d (eL (some 8) (eA8 (D.int .u16)) ([] : List (A8 Int)))) rfl rfl) (RV.d trivial)
theorem pr : ∀ (k : Nat) (a0 : aj) (a1 : (List Int)) (a2 : (A8 Int)) (r : (List (A8 Int))), fL k a0 a1 a2 = some r → PCall Try.prog 50 [bo a0, eL none (D.int .u16) a1, eA8 (D.int .u16) a2] (eL (some 8) (eA8 (D.int .u16)) r)
 | 0, _, _, _, _, h => by cases h
 | k + 1, _, _, _, _, h => vR (pr k) h
theorem vS {a0 : aj} {a1 : (List Int)} {a2 : (A8 Int)} {r : (List (A8 Int))} (h : lH a0 a1 a2 = some r) : PCall Try.prog 50 [bo a0, eL none (D.int .u16) a1, eA8 (D.int .u16) a2] (eL (some 8) (eA8 (D.int .u16)) r) := pr cm _ _ _ _ h
theorem kc {a0 : aj} {a1 : (List Int)} {a2 : (A8 Int)} {r : ((List (A8 Int)) × Int)} (h : dY a0 a1 a2 = some r) : PCall Try.prog 14 [bo a0, eL none (D.int .u16) a1, eA8 (D.int .u16) a2] (.tup [eL (some 8) (eA8 (D.int .u16)) r.1, .int .i64 r.2]) := by
 refine PCall.introN uE (show 3 ≤ 18 by decide) ?_
 refine aX (s0 := ⟨tab [(0, vs1 a0), (1, bp a1), (2, .d (eA8 (D.int .u16) a2))], ac [], 0⟩) (nr []) ?_
 refine ak ⟨tab [(1, bp a1), (3, aI a0), (5, .d (.cptr (some 8) (eA8 (D.int .u16) a2) 0)), (6, .ptr 0 0 0), (7, .ptr 1 0 0)], ac [(0, .var [.d (eL (some 8) (eA8 (D.int .u16)) [])]), (1, .var [vi 0])], 2⟩ ?_ ?_
 ·
  iterate 2 refine q1 _ ?_
  refine step (v := .ptr 0 0 0) (σ' := (al (ac []) 0 (some (.var [.d (eL (some 8) (eA8 (D.int .u16)) [])])))) (n' := 1) rfl ?_
  refine step (v := .ptr 1 0 0) (σ' := (al (al (ac []) 0 (some (.var [.d (eL (some 8) (eA8 (D.int .u16)) [])]))) 1 (some (.var [vi 0])))) (n' := 2) rfl ?_
  exact nR [0, 1]
 refine aN ?_
 obtain ⟨l1, hl1, h⟩ := aq h
 obtain ⟨r2, hr2, h⟩ := aq h
 refine ak ⟨tab [(1, bp a1), (3, aI a0), (5, .d (.cptr (some 8) (eA8 (D.int .u16) a2) 0)), (6, .ptr 0 0 0), (7, .ptr 1 0 0), (12, vb (r2 != 0))], ac [(0, .var [.d (eL (some 8) (eA8 (D.int .u16)) [])]), (1, .var [vi 0])], 2⟩ ?_ ?_
 ·
  refine step (v := .loc 2 0 l1.length) (σ' := (al (ac [(0, .var [.d (eL (some 8) (eA8 (D.int .u16)) [])]), (1, .var [vi 0])]) 2 (some (.lst false none (List.map (D.int .u16) l1))))) (n' := 3) (n7 (e := (D.int .u16)) (z := 0) hl1 rfl rfl (n8 hl1)) ?_
  iterate 2 refine q1 _ ?_
  refine a9 (r := .int .i64 r2) (nK (lj (dk (jG (xs := l1) (e := (D.int .u16)) rfl rfl) (dk dW (dk dW (dk dW (dk dW (dk dW jF))))))) (cy.aggs (by exact ⟨.refl _, .refl _, .refl _, .refl _, .refl _, .refl _, trivial⟩)) aL.nil') (vD hr2) ?_
  refine q1 _ ?_
  exact nR [0, 1]
 by_cases hc3 : (r2 != 0) = true
 ·
  replace h := aG hc3 h
  refine aT (t := (r2 != 0)) rfl hc3 ?_
  refine ak ⟨tab [(6, .ptr 0 0 0), (7, .ptr 1 0 0)], ac [(0, .var [.d (eL (some 8) (eA8 (D.int .u16)) ([] : List (A8 Int)))]), (1, .var [vi 11])], 2⟩ ?_ ?_
  ·
   refine step (v := V.undef) (σ' := (al (ac [(0, .var [.d (eL (some 8) (eA8 (D.int .u16)) [])]), (1, .var [vi 0])]) 0 (some (.var [.d (eL (some 8) (eA8 (D.int .u16)) ([] : List (A8 Int)))])))) (n' := 2) rfl ?_
   refine step (v := V.undef) (σ' := (al (al (ac [(0, .var [.d (eL (some 8) (eA8 (D.int .u16)) [])]), (1, .var [vi 0])]) 0 (some (.var [.d (eL (some 8) (eA8 (D.int .u16)) ([] : List (A8 Int)))]))) 1 (some (.var [vi 11])))) (n' := 2) rfl ?_
   exact nR [0, 1]
  have hh := ap h
  subst hh
  refine aV ?_
  show FQ _ _ _ _
  exact iL (.inr rfl) rfl (RV.d (RV.d trivial))
 ·
  replace h := aH hc3 h
  refine aS (t := (r2 != 0)) rfl hc3 ?_
  refine bm ?_
  refine tb ?_
  obtain ⟨r4, hr4, h⟩ := aq h
  refine ak ⟨tab [(6, .ptr 0 0 0), (7, .ptr 1 0 0)], ac [(0, .var [.d (eL (some 8) (eA8 (D.int .u16)) r4)]), (1, .var [vi 0])], 2⟩ ?_ ?_
  ·
   iterate 3 refine q1 _ ?_
   refine a9 (r := eL (some 8) (eA8 (D.int .u16)) r4) (aF (aF (aF aL.nil'))) (vS hr4) ?_
   refine step (v := V.undef) (σ' := (al (ac [(0, .var [.d (eL (some 8) (eA8 (D.int .u16)) [])]), (1, .var [vi 0])]) 0 (some (.var [.d (eL (some 8) (eA8 (D.int .u16)) r4)])))) (n' := 2) rfl ?_
   refine step (v := V.undef) (σ' := (al (al (ac [(0, .var [.d (eL (some 8) (eA8 (D.int .u16)) [])]), (1, .var [vi 0])]) 0 (some (.var [.d (eL (some 8) (eA8 (D.int .u16)) r4)]))) 1 (some (.var [vi 0])))) (n' := 2) rfl ?_
   exact nR [0, 1]
  have hh := ap h
  subst hh
  refine aV ?_
  show FQ _ _ _ _
  exact iL (.inr rfl) rfl (RV.d (RV.d trivial))
theorem vT {a0 : aj} {a1 : (List Int)} {a2 : (A8 Int)} {r : Bool} (h : oz a0 a1 a2 = some r) : PCall Try.prog 17 [bo a0, eL none (D.int .u16) a1, eA8 (D.int .u16) a2] (.bool r) := by
 refine PCall.introN uG (show 3 ≤ 23 by decide) ?_
 refine aX (s0 := ⟨tab [(0, vs1 a0), (1, bp a1), (2, .d (eA8 (D.int .u16) a2))], ac [], 0⟩) (nr []) ?_
 refine ak ⟨tab [(1, bp a1), (3, aI a0), (5, .d (.cptr (some 8) (eA8 (D.int .u16) a2) 0))], ac [], 0⟩ ?_ ?_
 ·
  iterate 3 refine q1 _ ?_
  exact nR []
 obtain ⟨r1, hr1, h⟩ := aq h
 refine ak ⟨tab [(7, .d (eL (some 8) (eA8 (D.int .u16)) r1.1)), (8, vi r1.2)], ac [], 0⟩ ?_ ?_
 ·
  iterate 3 refine q1 _ ?_
  refine a9 (r := .tup [eL (some 8) (eA8 (D.int .u16)) r1.1, .int .i64 r1.2]) (aF (aF (aF aL.nil'))) (kc hr1) ?_
  iterate 5 refine q1 _ ?_
  exact nR []
 refine ak ⟨tab [(6, vb ((r1.2 == 0) && (decide ((r1.1.length : Int) > 0))))], ac [], 0⟩ ?_ ?_
 ·
  iterate 3 refine q1 _ ?_
  by_cases hg2 : (r1.2 == 0) = true
  ·
   refine qG _ hg2 ?_
   refine q1 _ ?_
   refine qG _ hg2 ?_
   refine step (v := vi (r1.1.length : Int)) (bI (xs := r1.1) (e := (eA8 (D.int .u16))) rfl) ?_
   refine qG _ hg2 ?_
   refine q1 _ ?_
   refine step (v := vb (decide ((r1.1.length : Int) > 0))) (aJ (b := (r1.2 == 0)) rfl hg2 rfl) ?_
   refine q1 _ ?_
   exact aU.nil' (nm [] ⟨.eq (by first | (simp [hg2]; done) | (simp_all; done) | grind), trivial⟩ trivial)
  ·
   iterate 3 refine qX _ hg2 ?_
   refine step (v := vb false) (aM (b := (r1.2 == 0)) rfl hg2 rfl) ?_
   refine q1 _ ?_
   exact aU.nil' (nm [] ⟨.eq (by first | (simp [hg2]; done) | (simp_all; done) | grind), trivial⟩ trivial)
 have hh := ap h
 subst hh
 refine aV ?_
 show FQ _ _ _ _
 exact bh (.inr rfl) (bn (v := vb ((r1.2 == 0) && (decide ((r1.1.length : Int) > 0)))) rfl rfl) (RV.d trivial)
theorem vU  {r : Bool} (h : lI  = some r) : PCall Try.prog 12 [] (.bool r) := by
 refine PCall.introN uI (show 0 ≤ 56 by decide) ?_
 refine aX (s0 := ⟨tab [], ac [], 0⟩) (nr []) ?_
 refine ak ⟨tab [], ac [], 0⟩ ?_ ?_
 ·
  refine q1 _ ?_
  exact nR []
 obtain ⟨r1, hr1, h⟩ := aq h
 obtain ⟨r2, hr2, h⟩ := aq h
 refine ak ⟨tab [(1, .ptr 0 0 0)], ac [(0, bY r2)], 1⟩ ?_ ?_
 ·
  refine step (v := vs1 (aj.mk 5 1 1 [])) (dj (ds := [.int .i64 5, .int .i64 1, .int .u16 1, eL (some 4) aC []]) rfl) ?_
  refine step (v := vs1 (aj.mk 5 1 2 [])) (dj (ds := [.int .i64 5, .int .i64 1, .int .u16 2, eL (some 4) aC []]) rfl) ?_
  refine step (v := aE ([(aj.mk 5 1 1 []), (aj.mk 5 1 2 [])] : List aj)) (cE rfl (by simp [eL, bP])) ?_
  refine a9 (r := bo r1) (aF aL.nil') (ka hr1) ?_
  refine step (v := vs1 (aj.mk 3 0 5 [])) (dj (ds := [.int .i64 3, .int .i64 0, .int .u16 5, eL (some 4) aC []]) rfl) ?_
  refine step (v := aE ([r1, (aj.mk 3 0 5 [])] : List aj)) (cE rfl (by simp [eL, bP])) ?_
  refine a9 (r := bo r2) (aF aL.nil') (gy hr2) ?_
  refine step (v := .ptr 0 0 0) (σ' := (al (ac []) 0 (some (bk)))) (n' := 1) rfl ?_
  refine step (v := V.undef) (σ' := (al (al (ac []) 0 (some (bk))) 0 (some (bY r2)))) (n' := 1) rfl ?_
  exact nR [0]
 obtain ⟨r3, hr3, h⟩ := aq h
 refine ak ⟨tab [(1, .ptr 0 0 0), (2, .d (eL (some 8) (eA8 (D.int .u16)) r3.1)), (3, vi r3.2)], ac [(0, bY r2)], 1⟩ ?_ ?_
 ·
  refine step (v := vs1 r2) (bS (ds := [.int .i64 r2.Op, .int .i64 r2.F, .int .u16 r2.N, eL (some 4) aC r2.Kids]) rfl rfl (show 4 ≤ 4 by decide) rfl) ?_
  refine q1 _ ?_
  refine step (v := .d (eA8 (D.int .u16) (A8.mk 9 0 0 0 0 0 0 0))) (dj (ds := [.int .u16 9, .int .u16 0, .int .u16 0, .int .u16 0, .int .u16 0, .int .u16 0, .int .u16 0, .int .u16 0]) rfl) ?_
  refine a9 (r := .tup [eL (some 8) (eA8 (D.int .u16)) r3.1, .int .i64 r3.2]) (aF (aF (aF aL.nil'))) (kc hr3) ?_
  iterate 5 refine q1 _ ?_
  exact nR [0]
 obtain ⟨r4, hr4, h⟩ := aq h
 refine ak ⟨tab [(1, .ptr 0 0 0), (2, .d (eL (some 8) (eA8 (D.int .u16)) r3.1)), (3, vi r3.2), (4, .d (eL (some 8) (eA8 (D.int .u16)) r4.1)), (5, vi r4.2)], ac [(0, bY r2)], 1⟩ ?_ ?_
 ·
  refine step (v := vs1 r2) (bS (ds := [.int .i64 r2.Op, .int .i64 r2.F, .int .u16 r2.N, eL (some 4) aC r2.Kids]) rfl rfl (show 4 ≤ 4 by decide) rfl) ?_
  refine q1 _ ?_
  refine step (v := .d (eA8 (D.int .u16) (A8.mk 9 0 0 0 0 0 0 0))) (dj (ds := [.int .u16 9, .int .u16 0, .int .u16 0, .int .u16 0, .int .u16 0, .int .u16 0, .int .u16 0, .int .u16 0]) rfl) ?_
  refine a9 (r := .tup [eL (some 8) (eA8 (D.int .u16)) r4.1, .int .i64 r4.2]) (aF (aF (aF aL.nil'))) (kc hr4) ?_
  iterate 5 refine q1 _ ?_
  exact nR [0]
 obtain ⟨y12, hv, h⟩ := aq h
 refine ak ⟨tab [(0, vb y12)], ac [], 0⟩ ?_ ?_
 ·
  iterate 3 refine q1 _ ?_
  by_cases hg5 : (r3.2 == 0) = true
  ·
   replace hv := aG hg5 hv
   refine qG _ hg5 ?_
   refine q1 _ ?_
   refine qG _ hg5 ?_
   refine q1 _ ?_
   refine step (v := vb (r4.2 == 0)) (aJ (b := (r3.2 == 0)) rfl hg5 rfl) ?_
   refine q1 _ ?_
   by_cases hg6 : (r4.2 == 0) = true
   ·
    replace hv := aG hg6 hv
    refine qG _ hg6 ?_
    refine q1 _ ?_
    refine qG _ hg6 ?_
    refine step (v := vi (r3.1.length : Int)) (bI (xs := r3.1) (e := (eA8 (D.int .u16))) rfl) ?_
    refine qG _ hg6 ?_
    refine q1 _ ?_
    refine step (v := vb ((r3.1.length : Int) == 2)) (aJ (b := (r4.2 == 0)) rfl hg6 rfl) ?_
    refine q1 _ ?_
    by_cases hg7 : ((r3.1.length : Int) == 2) = true
    ·
     replace hv := aG hg7 hv
     obtain ⟨x8, hx8, hv⟩ := aq hv
     refine qG _ hg7 ?_
     refine q1 _ ?_
     refine qG _ hg7 ?_
     refine step (v := .d (.cptr (some 8) (eA8 (D.int .u16) x8) 0)) (cZ (xs := r3.1) (e := (eA8 (D.int .u16))) hx8 rfl rfl) ?_
     refine qG _ hg7 ?_
     refine q1 _ ?_
     refine qG _ hg7 ?_
     refine step (v := .d (eA8 (D.int .u16) (A8.mk 9 2 0 0 0 0 0 0))) (dj (ds := [.int .u16 9, .int .u16 2, .int .u16 0, .int .u16 0, .int .u16 0, .int .u16 0, .int .u16 0, .int .u16 0]) rfl) ?_
     refine qG _ hg7 ?_
     refine step (v := vb (x8 == (A8.mk 9 2 0 0 0 0 0 0))) (k8 (neg := false) rfl rfl (mb x8 (A8.mk 9 2 0 0 0 0 0 0))) ?_
     refine step (v := vb (x8 == (A8.mk 9 2 0 0 0 0 0 0))) (aJ (b := ((r3.1.length : Int) == 2)) rfl hg7 rfl) ?_
     refine q1 _ ?_
     by_cases hg9 : (x8 == (A8.mk 9 2 0 0 0 0 0 0)) = true
     ·
      replace hv := aG hg9 hv
      refine qG _ hg9 ?_
      refine q1 _ ?_
      refine qG _ hg9 ?_
      refine step (v := vi (r4.1.length : Int)) (bI (xs := r4.1) (e := (eA8 (D.int .u16))) rfl) ?_
      refine qG _ hg9 ?_
      refine q1 _ ?_
      refine step (v := vb ((r4.1.length : Int) == 0)) (aJ (b := (x8 == (A8.mk 9 2 0 0 0 0 0 0))) rfl hg9 rfl) ?_
      refine q1 _ ?_
      by_cases hg10 : ((r4.1.length : Int) == 0) = true
      ·
       replace hv := aG hg10 hv
       obtain ⟨r11, hr11, hv⟩ := aq hv
       refine qG _ hg10 ?_
       refine step (v := vs1 r2) (bS (ds := [.int .i64 r2.Op, .int .i64 r2.F, .int .u16 r2.N, eL (some 4) aC r2.Kids]) rfl rfl (show 4 ≤ 4 by decide) rfl) ?_
       refine qG _ hg10 ?_
       refine q1 _ ?_
       refine qG _ hg10 ?_
       refine step (v := .d (eA8 (D.int .u16) (A8.mk 0 0 0 0 0 0 0 0))) (dj (ds := [.int .u16 0, .int .u16 0, .int .u16 0, .int .u16 0, .int .u16 0, .int .u16 0, .int .u16 0, .int .u16 0]) rfl) ?_
       refine qG _ hg10 ?_
       refine a9 (r := .bool r11) (aF (aF (aF aL.nil'))) (vT hr11) ?_
       refine step (v := vb r11) (aJ (b := ((r4.1.length : Int) == 0)) rfl hg10 rfl) ?_
       refine q1 _ ?_
       have hh := ap hv
       subst hh
       exact nR []
      ·
       replace hv := aH hg10 hv
       iterate 4 refine qX _ hg10 ?_
       refine step (v := vb false) (aM (b := ((r4.1.length : Int) == 0)) rfl hg10 rfl) ?_
       refine q1 _ ?_
       have hh := ap hv
       subst hh
       exact nR []
     ·
      replace hv := aH hg9 hv
      iterate 3 refine qX _ hg9 ?_
      refine step (v := vb false) (aM (b := (x8 == (A8.mk 9 2 0 0 0 0 0 0))) rfl hg9 rfl) ?_
      refine q1 _ ?_
      iterate 4 refine qX false (by decide) ?_
      refine step (v := vb false) (aM (b := false) rfl (by decide) rfl) ?_
      refine q1 _ ?_
      have hh := ap hv
      subst hh
      exact nR []
    ·
     replace hv := aH hg7 hv
     iterate 5 refine qX _ hg7 ?_
     refine step (v := vb false) (aM (b := ((r3.1.length : Int) == 2)) rfl hg7 rfl) ?_
     refine q1 _ ?_
     iterate 3 refine qX false (by decide) ?_
     refine step (v := vb false) (aM (b := false) rfl (by decide) rfl) ?_
     refine q1 _ ?_
     iterate 4 refine qX false (by decide) ?_
     refine step (v := vb false) (aM (b := false) rfl (by decide) rfl) ?_
     refine q1 _ ?_
     have hh := ap hv
     subst hh
     exact nR []
   ·
    replace hv := aH hg6 hv
    iterate 3 refine qX _ hg6 ?_
    refine step (v := vb false) (aM (b := (r4.2 == 0)) rfl hg6 rfl) ?_
    refine q1 _ ?_
    iterate 5 refine qX false (by decide) ?_
    refine step (v := vb false) (aM (b := false) rfl (by decide) rfl) ?_
    refine q1 _ ?_
    iterate 3 refine qX false (by decide) ?_
    refine step (v := vb false) (aM (b := false) rfl (by decide) rfl) ?_
    refine q1 _ ?_
    iterate 4 refine qX false (by decide) ?_
    refine step (v := vb false) (aM (b := false) rfl (by decide) rfl) ?_
    refine q1 _ ?_
    have hh := ap hv
    subst hh
    exact nR []
  ·
   replace hv := aH hg5 hv
   iterate 2 refine qX _ hg5 ?_
   refine step (v := vb false) (aM (b := (r3.2 == 0)) rfl hg5 rfl) ?_
   refine q1 _ ?_
   iterate 3 refine qX false (by decide) ?_
   refine step (v := vb false) (aM (b := false) rfl (by decide) rfl) ?_
   refine q1 _ ?_
   iterate 5 refine qX false (by decide) ?_
   refine step (v := vb false) (aM (b := false) rfl (by decide) rfl) ?_
   refine q1 _ ?_
   iterate 3 refine qX false (by decide) ?_
   refine step (v := vb false) (aM (b := false) rfl (by decide) rfl) ?_
   refine q1 _ ?_
   iterate 4 refine qX false (by decide) ?_
   refine step (v := vb false) (aM (b := false) rfl (by decide) rfl) ?_
   refine q1 _ ?_
   have hh := ap hv
   subst hh
   exact nR []
 have hh := ap h
 subst hh
 refine aV ?_
 show FQ _ _ _ _
 exact bh (.inr rfl) (bn (v := vb y12) rfl rfl) (RV.d trivial)
theorem pu {a0 : (List law05_Step)} {r : (aj × Bool)} (h : iS a0 = some r) : PCall Try.prog 13 [eL (some 4) elaw05_Step a0] (.tup [bo r.1, .bool r.2]) := by
 refine PCall.introN uL (show 1 ≤ 123 by decide) ?_
 refine aX (s0 := ⟨tab [(0, ck a0)], ac [], 0⟩) (nr []) ?_
 refine ak ⟨tab [(0, ck a0), (2, .ptr 0 0 0)], ac [(0, bk)], 1⟩ ?_ ?_
 ·
  refine step (v := .ptr 0 0 0) (σ' := (al (ac []) 0 (some (bk)))) (n' := 1) rfl ?_
  refine q1 _ ?_
  exact nR [0]
 refine aN ?_
 refine ak ⟨tab [(0, ck a0), (2, .ptr 0 0 0), (12, vb (decide ((a0.length : Int) > 60)))], ac [(0, bk)], 1⟩ ?_ ?_
 ·
  refine q1 _ ?_
  refine step (v := vi (a0.length : Int)) (bI (xs := a0) (e := elaw05_Step) rfl) ?_
  refine q1 _ ?_
  exact nR [0]
 by_cases hc1 : decide ((a0.length : Int) > 60) = true
 ·
  replace h := aG hc1 h
  refine aT (t := decide ((a0.length : Int) > 60)) rfl hc1 ?_
  refine ak ⟨tab [(2, .ptr 0 0 0), (3, vb false)], ac [(0, bk)], 1⟩ ?_ ?_
  ·
   refine step (v := vs1 (aj.mk 0 0 0 [])) (dj (ds := [.int .i64 0, .int .i64 0, .int .u16 0, eL (some 4) aC []]) rfl) ?_
   refine step (v := V.undef) (σ' := (al (ac [(0, bk)]) 0 (some (bk)))) (n' := 1) rfl ?_
   refine q1 _ ?_
   exact nR [0]
  have hh := ap h
  subst hh
  refine aV ?_
  show FQ _ _ _ _
  exact iL (.inr rfl) (gl (ds := [.int .i64 0, .int .i64 0, .int .u16 0, eL (some 4) aC []]) rfl rfl (show 4 ≤ 4 by decide) rfl (bn (v := vb false) rfl rfl)) (RV.d (RV.d trivial))
 ·
  replace h := aH hc1 h
  refine aS (t := decide ((a0.length : Int) > 60)) rfl hc1 ?_
  refine bm ?_
  refine ak ⟨tab [(0, ck a0), (2, .ptr 0 0 0), (4, .d (.nils))], ac [(0, bk)], 1⟩ ?_ ?_
  ·
   refine q1 _ ?_
   exact nR [0]
  refine aN ?_
  refine ak ⟨tab [(2, .ptr 0 0 0), (4, .d (.nils)), (14, ck a0), (15, vi (a0.length : Int)), (16, vi 0)], ac [(0, bk)], 1⟩ ?_ ?_
  ·
   refine q1 _ ?_
   refine step (v := vi (a0.length : Int)) (bI (xs := a0) (e := elaw05_Step) rfl) ?_
   refine q1 _ ?_
   exact nR [0]
  obtain ⟨z29, hl, h⟩ := aq h
  refine aX (s0 := ⟨tab [(2, .ptr 0 0 0), (4, .loc 1 0 (([] : List aj).length)), (14, ck a0), (15, vi (a0.length : Int)), (16, vi 0)], ac [(0, bk), (1, .lst true (some 4) (List.map aC ([] : List aj)))], 2⟩) (bU.trans (s2 := ⟨tab [(2, .ptr 0 0 0), (4, .loc 1 0 (([] : List aj).length)), (14, ck a0), (15, vi (a0.length : Int)), (16, vi 0)], ac [(0, bk), (1, .lst true (some 4) (List.map aC ([] : List aj)))], 2⟩) (jD 4 true (some 4) rfl) (nr [0, 1])) ?_
  refine bE ?_
  refine ft (cK (a0.length : Int)) (fun (i3 : Int) (qq : (List aj)) => ⟨tab [(2, .ptr 0 0 0), (4, .loc 1 0 qq.length), (14, ck a0), (15, vi (a0.length : Int)), (16, vi i3)], ac [(0, bk), (1, .lst true (some 4) (List.map aC qq))], 2⟩) 0 (fun (qq : (List aj)) => ⟨tab [(2, .ptr 0 0 0), (4, .loc 1 0 qq.length)], ac [(0, bk), (1, .lst true (some 4) (List.map aC qq))], 2⟩) bJ cL hl (by unfold bJ; omega) ?_ ?_ ?_
  ·
   rintro i3 l2 xr8 hinv6 hgo5 h
   show aP _ _ _ _ _ ⟨tab [(2, .ptr 0 0 0), (4, .loc 1 0 l2.length), (14, ck a0), (15, vi (a0.length : Int)), (16, vi i3)], ac [(0, bk), (1, .lst true (some 4) (List.map aC l2))], 2⟩
   have hc7 : decide (i3 < (a0.length : Int)) = true := decide_eq_true hgo5
   refine ak ⟨tab [(2, .ptr 0 0 0), (4, .loc 1 0 l2.length), (14, ck a0), (15, vi (a0.length : Int)), (16, vi i3), (17, vb (decide (i3 < (a0.length : Int))))], ac [(0, bk), (1, .lst true (some 4) (List.map aC l2))], 2⟩ ?_ ?_
   ·
    refine q1 _ ?_
    exact nR [0, 1]
   refine cJ 15 rfl fun hB4 => ?_
   refine aN ?_
   refine aT (t := decide (i3 < (a0.length : Int))) rfl hc7 ?_
   refine bm ?_
   obtain ⟨l27, hv, h⟩ := aq h
   refine ex ⟨tab [(2, .ptr 0 0 0), (4, .loc 1 0 l27.length), (14, ck a0), (15, vi (a0.length : Int)), (16, vi i3)], ac [(0, bk), (1, .lst true (some 4) (List.map aC l27))], 2⟩ ?_ ?_
   ·
    replace h := hv
    refine bE ?_
    obtain ⟨x9, hx9, h⟩ := aq h
    refine ak ⟨tab [(2, .ptr 0 0 0), (4, .loc 1 0 l2.length), (6, .ptr 2 0 0), (14, ck a0), (15, vi (a0.length : Int)), (16, vi i3)], ac [(0, bk), (1, .lst true (some 4) (List.map aC l2)), (2, dx x9)], 3⟩ ?_ ?_
    ·
     refine step (v := .d (.cptr (some 4) (elaw05_Step x9) 0)) (cZ (xs := a0) (e := elaw05_Step) hx9 rfl rfl) ?_
     refine q1 _ ?_
     refine step (v := .ptr 2 0 0) (σ' := (al (ac [(0, bk), (1, .lst true (some 4) (List.map aC l2))]) 2 (some (.var [vi 0, vi 0, vh 0, v8 0])))) (n' := 3) rfl ?_
     refine step (v := V.undef) (σ' := (al (al (ac [(0, bk), (1, .lst true (some 4) (List.map aC l2))]) 2 (some (.var [vi 0, vi 0, vh 0, v8 0]))) 2 (some (dx x9)))) (n' := 3) rfl ?_
     exact nR [0, 1, 2]
    refine ak ⟨tab [(2, .ptr 0 0 0), (4, .loc 1 0 l2.length), (6, .ptr 2 0 0), (7, vi (l2.length : Int)), (14, ck a0), (15, vi (a0.length : Int)), (16, vi i3)], ac [(0, bk), (1, .lst true (some 4) (List.map aC l2)), (2, dx x9)], 3⟩ ?_ ?_
    ·
     iterate 3 refine q1 _ ?_
     exact nR [0, 1, 2]
    refine bE ?_
    refine ak ⟨tab [(2, .ptr 0 0 0), (4, .loc 1 0 l2.length), (6, .ptr 2 0 0), (7, vi (l2.length : Int)), (14, ck a0), (15, vi (a0.length : Int)), (16, vi i3), (22, vb ((x9.What == 0) || (x9.What == 1)))], ac [(0, bk), (1, .lst true (some 4) (List.map aC l2)), (2, dx x9)], 3⟩ ?_ ?_
    ·
     iterate 4 refine q1 _ ?_
     by_cases hg10 : (x9.What == 0) = true
     ·
      iterate 3 refine qX (x9.What == 0) (by rw [hg10]; decide) ?_
      refine step (v := vb true) (aJ (b := (x9.What == 0)) rfl hg10 rfl) ?_
      refine q1 _ ?_
      exact aU.nil' (nm [0, 1, 2] ⟨.pt 0, .lc 1, .pt 2, .d _, .d _, .d _, .d _, .eq (by first | (simp [hg10]; done) | (simp_all; done) | grind), trivial⟩ ⟨⟨show 0 < 3 by decide, _, rfl, .vars ⟨.d _, .d _, .d _, .d _, trivial⟩⟩, ⟨show 1 < 3 by decide, _, rfl, .lst _ _ _⟩, ⟨show 2 < 3 by decide, _, rfl, .vars ⟨.d _, .d _, .d _, .d _, trivial⟩⟩, trivial⟩)
     ·
      refine qG (x9.What == 0) (Bool.eq_false_iff.2 hg10) ?_
      refine q1 _ ?_
      refine qG (x9.What == 0) (Bool.eq_false_iff.2 hg10) ?_
      refine q1 _ ?_
      refine qG (x9.What == 0) (Bool.eq_false_iff.2 hg10) ?_
      refine q1 _ ?_
      refine step (v := vb (x9.What == 1)) (aM (b := (x9.What == 0)) rfl hg10 rfl) ?_
      refine q1 _ ?_
      exact aU.nil' (nm [0, 1, 2] ⟨.pt 0, .lc 1, .pt 2, .d _, .d _, .d _, .d _, .eq (by first | (simp [hg10]; done) | (simp_all; done) | grind), trivial⟩ ⟨⟨show 0 < 3 by decide, _, rfl, .vars ⟨.d _, .d _, .d _, .d _, trivial⟩⟩, ⟨show 1 < 3 by decide, _, rfl, .lst _ _ _⟩, ⟨show 2 < 3 by decide, _, rfl, .vars ⟨.d _, .d _, .d _, .d _, trivial⟩⟩, trivial⟩)
    by_cases hc11 : ((x9.What == 0) || (x9.What == 1)) = true
    ·
     replace h := aG hc11 h
     refine aT (t := ((x9.What == 0) || (x9.What == 1))) rfl hc11 ?_
     obtain ⟨l12, hl12, h⟩ := aq h
     have hh := ap h
     subst hh
     refine bN ⟨tab [(2, .ptr 0 0 0), (4, .loc 1 0 l12.length), (14, ck a0), (15, vi (a0.length : Int)), (16, vi i3)], ac [(0, bk), (1, .lst true (some 4) (List.map aC l12))], 2⟩ ?_ ?_
     ·
      iterate 3 refine q1 _ ?_
      refine step (v := vs1 (aj.mk x9.What 0 0 [])) (dj (ds := [.int .i64 x9.What, .int .i64 0, .int .u16 0, eL (some 4) aC []]) rfl) ?_
      refine step (v := aE ([(aj.mk x9.What 0 0 [])] : List aj)) (cE rfl (by simp [eL, bP])) ?_
      refine step (v := .loc 3 0 l12.length) (σ' := (al (al (ac [(0, bk), (1, .lst true (some 4) (List.map aC l2)), (2, dx x9)]) 1 none) 3 (some (.lst true (some 4) (List.map aC l12))))) (n' := 4) (gj (xs := l2) (ys := ([(aj.mk x9.What 0 0 [])] : List aj)) (e := aC) hl12 rfl rfl rfl (gR (xs := ([(aj.mk x9.What 0 0 [])] : List aj)) (e := aC) rfl)) ?_
      refine q1 _ ?_
      exact nR [0, 3]
     exact And.intro rfl rfl
    ·
     replace h := aH hc11 h
     refine aS (t := ((x9.What == 0) || (x9.What == 1))) rfl hc11 ?_
     refine ak ⟨tab [(2, .ptr 0 0 0), (4, .loc 1 0 l2.length), (6, .ptr 2 0 0), (7, vi (l2.length : Int)), (14, ck a0), (15, vi (a0.length : Int)), (16, vi i3), (37, vb ((x9.What == 2) || ((x9.What == 3) || (x9.What == 5))))], ac [(0, bk), (1, .lst true (some 4) (List.map aC l2)), (2, dx x9)], 3⟩ ?_ ?_
     ·
      iterate 4 refine q1 _ ?_
      by_cases hg13 : (x9.What == 2) = true
      ·
       iterate 3 refine qX (x9.What == 2) (by rw [hg13]; decide) ?_
       refine step (v := vb true) (aJ (b := (x9.What == 2)) rfl hg13 rfl) ?_
       refine q1 _ ?_
       iterate 3 refine qX true (by decide) ?_
       refine step (v := vb true) (aJ (b := true) rfl rfl rfl) ?_
       refine q1 _ ?_
       exact aU.nil' (nm [0, 1, 2] ⟨.pt 0, .lc 1, .pt 2, .d _, .d _, .d _, .d _, .eq (by first | (simp [hg13]; done) | (simp_all; done) | grind), trivial⟩ ⟨⟨show 0 < 3 by decide, _, rfl, .vars ⟨.d _, .d _, .d _, .d _, trivial⟩⟩, ⟨show 1 < 3 by decide, _, rfl, .lst _ _ _⟩, ⟨show 2 < 3 by decide, _, rfl, .vars ⟨.d _, .d _, .d _, .d _, trivial⟩⟩, trivial⟩)
      ·
       refine qG (x9.What == 2) (Bool.eq_false_iff.2 hg13) ?_
       refine q1 _ ?_
       refine qG (x9.What == 2) (Bool.eq_false_iff.2 hg13) ?_
       refine q1 _ ?_
       refine qG (x9.What == 2) (Bool.eq_false_iff.2 hg13) ?_
       refine q1 _ ?_
       refine step (v := vb (x9.What == 3)) (aM (b := (x9.What == 2)) rfl hg13 rfl) ?_
       refine q1 _ ?_
       by_cases hg14 : (x9.What == 3) = true
       ·
        iterate 3 refine qX (x9.What == 3) (by rw [hg14]; decide) ?_
        refine step (v := vb true) (aJ (b := (x9.What == 3)) rfl hg14 rfl) ?_
        refine q1 _ ?_
        exact aU.nil' (nm [0, 1, 2] ⟨.pt 0, .lc 1, .pt 2, .d _, .d _, .d _, .d _, .eq (by first | (simp [hg13, hg14]; done) | (simp_all; done) | grind), trivial⟩ ⟨⟨show 0 < 3 by decide, _, rfl, .vars ⟨.d _, .d _, .d _, .d _, trivial⟩⟩, ⟨show 1 < 3 by decide, _, rfl, .lst _ _ _⟩, ⟨show 2 < 3 by decide, _, rfl, .vars ⟨.d _, .d _, .d _, .d _, trivial⟩⟩, trivial⟩)
       ·
        refine qG (x9.What == 3) (Bool.eq_false_iff.2 hg14) ?_
        refine q1 _ ?_
        refine qG (x9.What == 3) (Bool.eq_false_iff.2 hg14) ?_
        refine q1 _ ?_
        refine qG (x9.What == 3) (Bool.eq_false_iff.2 hg14) ?_
        refine q1 _ ?_
        refine step (v := vb (x9.What == 5)) (aM (b := (x9.What == 3)) rfl hg14 rfl) ?_
        refine q1 _ ?_
        exact aU.nil' (nm [0, 1, 2] ⟨.pt 0, .lc 1, .pt 2, .d _, .d _, .d _, .d _, .eq (by first | (simp [hg13, hg14]; done) | (simp_all; done) | grind), trivial⟩ ⟨⟨show 0 < 3 by decide, _, rfl, .vars ⟨.d _, .d _, .d _, .d _, trivial⟩⟩, ⟨show 1 < 3 by decide, _, rfl, .lst _ _ _⟩, ⟨show 2 < 3 by decide, _, rfl, .vars ⟨.d _, .d _, .d _, .d _, trivial⟩⟩, trivial⟩)
     by_cases hc15 : ((x9.What == 2) || ((x9.What == 3) || (x9.What == 5))) = true
     ·
      replace h := aG hc15 h
      refine aT (t := ((x9.What == 2) || ((x9.What == 3) || (x9.What == 5)))) rfl hc15 ?_
      obtain ⟨l16, hl16, h⟩ := aq h
      have hh := ap h
      subst hh
      refine bN ⟨tab [(2, .ptr 0 0 0), (4, .loc 1 0 l16.length), (14, ck a0), (15, vi (a0.length : Int)), (16, vi i3)], ac [(0, bk), (1, .lst true (some 4) (List.map aC l16))], 2⟩ ?_ ?_
      ·
       iterate 7 refine q1 _ ?_
       refine step (v := vs1 (aj.mk x9.What x9.F x9.N [])) (dj (ds := [.int .i64 x9.What, .int .i64 x9.F, .int .u16 x9.N, eL (some 4) aC []]) rfl) ?_
       refine step (v := aE ([(aj.mk x9.What x9.F x9.N [])] : List aj)) (cE rfl (by simp [eL, bP])) ?_
       refine step (v := .loc 3 0 l16.length) (σ' := (al (al (ac [(0, bk), (1, .lst true (some 4) (List.map aC l2)), (2, dx x9)]) 1 none) 3 (some (.lst true (some 4) (List.map aC l16))))) (n' := 4) (gj (xs := l2) (ys := ([(aj.mk x9.What x9.F x9.N [])] : List aj)) (e := aC) hl16 rfl rfl rfl (gR (xs := ([(aj.mk x9.What x9.F x9.N [])] : List aj)) (e := aC) rfl)) ?_
       refine q1 _ ?_
       exact nR [0, 3]
      exact And.intro rfl rfl
     ·
      replace h := aH hc15 h
      refine aS (t := ((x9.What == 2) || ((x9.What == 3) || (x9.What == 5)))) rfl hc15 ?_
      refine ak ⟨tab [(2, .ptr 0 0 0), (4, .loc 1 0 l2.length), (6, .ptr 2 0 0), (7, vi (l2.length : Int)), (14, ck a0), (15, vi (a0.length : Int)), (16, vi i3), (61, vb ((x9.What == 4) && (decide ((l2.length : Int) > 0))))], ac [(0, bk), (1, .lst true (some 4) (List.map aC l2)), (2, dx x9)], 3⟩ ?_ ?_
      ·
       iterate 4 refine q1 _ ?_
       by_cases hg17 : (x9.What == 4) = true
       ·
        refine qG _ hg17 ?_
        refine q1 _ ?_
        refine qG _ hg17 ?_
        refine q1 _ ?_
        refine step (v := vb (decide ((l2.length : Int) > 0))) (aJ (b := (x9.What == 4)) rfl hg17 rfl) ?_
        refine q1 _ ?_
        exact aU.nil' (nm [0, 1, 2] ⟨.pt 0, .lc 1, .pt 2, .d _, .d _, .d _, .d _, .eq (by first | (simp [hg17]; done) | (simp_all; done) | grind), trivial⟩ ⟨⟨show 0 < 3 by decide, _, rfl, .vars ⟨.d _, .d _, .d _, .d _, trivial⟩⟩, ⟨show 1 < 3 by decide, _, rfl, .lst _ _ _⟩, ⟨show 2 < 3 by decide, _, rfl, .vars ⟨.d _, .d _, .d _, .d _, trivial⟩⟩, trivial⟩)
       ·
        iterate 2 refine qX _ hg17 ?_
        refine step (v := vb false) (aM (b := (x9.What == 4)) rfl hg17 rfl) ?_
        refine q1 _ ?_
        exact aU.nil' (nm [0, 1, 2] ⟨.pt 0, .lc 1, .pt 2, .d _, .d _, .d _, .d _, .eq (by first | (simp [hg17]; done) | (simp_all; done) | grind), trivial⟩ ⟨⟨show 0 < 3 by decide, _, rfl, .vars ⟨.d _, .d _, .d _, .d _, trivial⟩⟩, ⟨show 1 < 3 by decide, _, rfl, .lst _ _ _⟩, ⟨show 2 < 3 by decide, _, rfl, .vars ⟨.d _, .d _, .d _, .d _, trivial⟩⟩, trivial⟩)
      by_cases hc18 : ((x9.What == 4) && (decide ((l2.length : Int) > 0))) = true
      ·
       replace h := aG hc18 h
       refine aT (t := ((x9.What == 4) && (decide ((l2.length : Int) > 0)))) rfl hc18 ?_
       obtain ⟨x19, hx19, h⟩ := aq h
       obtain ⟨l20, hl20, h⟩ := aq h
       have hh := ap h
       subst hh
       refine bN ⟨tab [(2, .ptr 0 0 0), (4, .loc 1 0 l20.length), (14, ck a0), (15, vi (a0.length : Int)), (16, vi i3)], ac [(0, bk), (1, .lst true (some 4) (List.map aC l20))], 2⟩ ?_ ?_
       ·
        iterate 6 refine q1 _ ?_
        refine step (v := .ptr 1 (IntKind.i64.wrap ((l2.length : Int) - 1)).toNat 0) (eI (xs := l2) (e := aC) hx19 rfl rfl rfl rfl) ?_
        refine step (v := vs1 x19) (n5 (xs := l2) (e := aC) hx19 rfl rfl (bP _) rfl) ?_
        refine step (v := aE ([x19] : List aj)) (cE rfl (by simp [eL, bP])) ?_
        refine step (v := vs1 (aj.mk 4 0 0 ([x19] : List aj))) (dj (ds := [.int .i64 4, .int .i64 0, .int .u16 0, eL (some 4) aC ([x19] : List aj)]) rfl) ?_
        refine step (v := .ptr 1 (IntKind.i64.wrap ((l2.length : Int) - 1)).toNat 0) (eI (xs := l2) (e := aC) hx19 rfl rfl rfl rfl) ?_
        refine step (v := V.undef) (σ' := (al (ac [(0, bk), (1, .lst true (some 4) (List.map aC l2)), (2, dx x9)]) 1 (some (.lst true (some 4) (List.map aC l20))))) (n' := 3) (rM (e := aC) (v' := (aj.mk 4 0 0 ([x19] : List aj))) hl20 rfl rfl rfl (bP _) rfl rfl) ?_
        exact aU.nil' (nm [0, 1] ⟨.pt 0, .le (id := 1) (jB hl20).symm (show 1 < 2 by decide), .d _, .d _, .d _, trivial⟩ ⟨⟨show 0 < 2 by decide, _, rfl, .vars ⟨.d _, .d _, .d _, .d _, trivial⟩⟩, ⟨show 1 < 2 by decide, _, rfl, .lst _ _ _⟩, trivial⟩)
       exact And.intro rfl rfl
      ·
       replace h := aH hc18 h
       refine aS (t := ((x9.What == 4) && (decide ((l2.length : Int) > 0)))) rfl hc18 ?_
       refine ak ⟨tab [(2, .ptr 0 0 0), (4, .loc 1 0 l2.length), (6, .ptr 2 0 0), (7, vi (l2.length : Int)), (14, ck a0), (15, vi (a0.length : Int)), (16, vi i3), (80, vb ((x9.What == 6) || (x9.What == 7)))], ac [(0, bk), (1, .lst true (some 4) (List.map aC l2)), (2, dx x9)], 3⟩ ?_ ?_
       ·
        iterate 4 refine q1 _ ?_
        by_cases hg21 : (x9.What == 6) = true
        ·
         iterate 3 refine qX (x9.What == 6) (by rw [hg21]; decide) ?_
         refine step (v := vb true) (aJ (b := (x9.What == 6)) rfl hg21 rfl) ?_
         refine q1 _ ?_
         exact aU.nil' (nm [0, 1, 2] ⟨.pt 0, .lc 1, .pt 2, .d _, .d _, .d _, .d _, .eq (by first | (simp [hg21]; done) | (simp_all; done) | grind), trivial⟩ ⟨⟨show 0 < 3 by decide, _, rfl, .vars ⟨.d _, .d _, .d _, .d _, trivial⟩⟩, ⟨show 1 < 3 by decide, _, rfl, .lst _ _ _⟩, ⟨show 2 < 3 by decide, _, rfl, .vars ⟨.d _, .d _, .d _, .d _, trivial⟩⟩, trivial⟩)
        ·
         refine qG (x9.What == 6) (Bool.eq_false_iff.2 hg21) ?_
         refine q1 _ ?_
         refine qG (x9.What == 6) (Bool.eq_false_iff.2 hg21) ?_
         refine q1 _ ?_
         refine qG (x9.What == 6) (Bool.eq_false_iff.2 hg21) ?_
         refine q1 _ ?_
         refine step (v := vb (x9.What == 7)) (aM (b := (x9.What == 6)) rfl hg21 rfl) ?_
         refine q1 _ ?_
         exact aU.nil' (nm [0, 1, 2] ⟨.pt 0, .lc 1, .pt 2, .d _, .d _, .d _, .d _, .eq (by first | (simp [hg21]; done) | (simp_all; done) | grind), trivial⟩ ⟨⟨show 0 < 3 by decide, _, rfl, .vars ⟨.d _, .d _, .d _, .d _, trivial⟩⟩, ⟨show 1 < 3 by decide, _, rfl, .lst _ _ _⟩, ⟨show 2 < 3 by decide, _, rfl, .vars ⟨.d _, .d _, .d _, .d _, trivial⟩⟩, trivial⟩)
       by_cases hc22 : ((x9.What == 6) || (x9.What == 7)) = true
       ·
        replace h := aG hc22 h
        refine aT (t := ((x9.What == 6) || (x9.What == 7))) rfl hc22 ?_
        refine ak ⟨tab [(2, .ptr 0 0 0), (4, .loc 1 0 l2.length), (6, .ptr 2 0 0), (7, vi (l2.length : Int)), (8, vi (eH (IntKind.i64.wrap x9.K) (l2.length : Int))), (14, ck a0), (15, vi (a0.length : Int)), (16, vi i3)], ac [(0, bk), (1, .lst true (some 4) (List.map aC l2)), (2, dx x9)], 3⟩ ?_ ?_
        ·
         iterate 6 refine q1 _ ?_
         exact nR [0, 1, 2]
        obtain ⟨l23, hl23, h⟩ := aq h
        obtain ⟨l24, hl24, h⟩ := aq h
        refine ak ⟨tab [(2, .ptr 0 0 0), (4, .loc 1 0 l2.length), (6, .ptr 2 0 0), (7, vi (l2.length : Int)), (8, vi (eH (IntKind.i64.wrap x9.K) (l2.length : Int))), (9, .loc 3 0 l24.length), (14, ck a0), (15, vi (a0.length : Int)), (16, vi i3)], ac [(0, bk), (1, .lst true (some 4) (List.map aC l2)), (2, dx x9), (3, .lst false (some 4) (List.map aC l24))], 4⟩ ?_ ?_
        ·
         refine step (v := .loc 3 0 (([] : List aj).length)) (σ' := (al (ac [(0, bk), (1, .lst true (some 4) (List.map aC l2)), (2, dx x9)]) 3 (some (.lst false (some 4) (List.map aC ([] : List aj)))))) (n' := 4) rfl ?_
         iterate 4 refine q1 _ ?_
         refine step (v := .loc 1 (IntKind.i64.wrap ((l2.length : Int) - (eH (IntKind.i64.wrap x9.K) (l2.length : Int)))).toNat ((l2.length : Int).toNat - (IntKind.i64.wrap ((l2.length : Int) - (eH (IntKind.i64.wrap x9.K) (l2.length : Int)))).toNat)) (jC (xs := l2) (e := aC) hl23 rfl rfl rfl ⟨_, rfl⟩ rfl) ?_
         refine step (v := .loc 4 0 l24.length) (σ' := (al (al (al (ac [(0, bk), (1, .lst true (some 4) (List.map aC l2)), (2, dx x9)]) 3 (some (.lst false (some 4) (List.map aC ([] : List aj))))) 3 none) 4 (some (.lst false (some 4) (List.map aC l24))))) (n' := 5) (gj (xs := ([] : List aj)) (ys := l23) (e := aC) hl24 rfl rfl rfl (rS (xs := l2) (e := aC) hl23 rfl rfl)) ?_
         refine q1 _ ?_
         exact nR [0, 1, 2, 4]
        obtain ⟨l25, hl25, h⟩ := aq h
        obtain ⟨l26, hl26, h⟩ := aq h
        have hh := ap h
        subst hh
        refine pd ⟨tab [(2, .ptr 0 0 0), (4, .loc 1 0 l26.length), (14, ck a0), (15, vi (a0.length : Int)), (16, vi i3)], ac [(0, bk), (1, .lst true (some 4) (List.map aC l26))], 2⟩ ?_ ?_
        ·
         refine cb [] [] (v := .loc 1 0 l2.length) rfl rfl rfl ?_
         refine cb [] [] (v := vi (l2.length : Int)) rfl rfl rfl ?_
         refine cb [] [] (v := vi (eH (IntKind.i64.wrap x9.K) (l2.length : Int))) rfl rfl rfl ?_
         refine cb [] [] (v := vi (IntKind.i64.wrap ((l2.length : Int) - (eH (IntKind.i64.wrap x9.K) (l2.length : Int))))) rfl rfl rfl ?_
         refine cb [1] [] (v := .loc 1 (0 : Int).toNat ((IntKind.i64.wrap ((l2.length : Int) - (eH (IntKind.i64.wrap x9.K) (l2.length : Int)))).toNat - (0 : Int).toNat)) (jC (xs := l2) (e := aC) hl25 rfl rfl rfl rfl ⟨_, rfl⟩) rfl rfl ?_
         refine cb [] [] (v := .ptr 2 0 0) rfl rfl rfl ?_
         refine cb [2] [] (v := vi x9.What) rfl rfl rfl ?_
         refine cb [] [] (v := .loc 3 0 l24.length) rfl rfl rfl ?_
         refine cb [] [] (v := .agg [vi x9.What, vi 0, vh 0, .loc 3 0 l24.length]) rfl rfl rfl ?_
         refine cb [3] [] (v := .loc 4 0 (([(aj.mk x9.What 0 0 l24)] : List aj).length)) (σ' := (al (ac [(0, bk), (1, .lst true (some 4) (List.map aC l2)), (2, dx x9), (3, .lst false (some 4) (List.map aC l24))]) 4 (some (.lst false (some 4) (List.map aC ([(aj.mk x9.What 0 0 l24)] : List aj)))))) (n' := 5) (r6 (ds := List.map aC ([(aj.mk x9.What 0 0 l24)] : List aj)) (dk (f := fun x => co _ (aB _ x)) (lj (dk dW (dk dW (dk dW (dk (tg (xs := l24) rfl rfl) jF))))) jF) rfl) rfl rfl ?_
         refine cb [1, 4] [1] (v := .loc 5 0 l26.length) (σ' := (al (al (al (ac [(0, bk), (1, .lst true (some 4) (List.map aC l2)), (2, dx x9), (3, .lst false (some 4) (List.map aC l24))]) 4 (some (.lst false (some 4) (List.map aC ([(aj.mk x9.What 0 0 l24)] : List aj))))) 1 none) 5 (some (.lst true (some 4) (List.map aC l26))))) (n' := 6) (rR (xs := l2) (ys := ([(aj.mk x9.What 0 0 l24)] : List aj)) (e := aC) hl25 hl26 rfl rfl (fun σ2 hq => (rO (xs := ([(aj.mk x9.What 0 0 l24)] : List aj)) (e := aC) rfl ((hq 4 (by decide)).trans rfl) rfl))) rfl rfl ?_
         refine cb [] [] (v := .loc 5 0 l26.length) rfl rfl rfl ?_
         exact ca.nil' ⟨by decide, nr [0, 5]⟩
        exact And.intro rfl rfl
       ·
        replace h := aH hc22 h
        refine aS (t := ((x9.What == 6) || (x9.What == 7))) rfl hc22 ?_
        have hh := ap h
        subst hh
        refine aX (s0 := ⟨tab [(2, .ptr 0 0 0), (4, .loc 1 0 l2.length), (14, ck a0), (15, vi (a0.length : Int)), (16, vi i3)], ac [(0, bk), (1, .lst true (some 4) (List.map aC l2))], 2⟩) (nr [0, 1]) ?_
        refine bm ?_
        exact And.intro rfl rfl
   have hh := ap h
   subst hh
   refine bN ⟨tab [(2, .ptr 0 0 0), (4, .loc 1 0 l27.length), (14, ck a0), (15, vi (a0.length : Int)), (16, vi (i3 + 1))], ac [(0, bk), (1, .lst true (some 4) (List.map aC l27))], 2⟩ ?_ ?_
   ·
    refine step (v := vi (i3 + 1)) (cM (cN hinv6 hgo5 hB4) rfl rfl) ?_
    refine q1 _ ?_
    exact nR [0, 1]
   exact And.intro rfl rfl
  ·
   rintro i3 l2 hinv6 hgo5
   show aP _ _ _ _ _ ⟨tab [(2, .ptr 0 0 0), (4, .loc 1 0 l2.length), (14, ck a0), (15, vi (a0.length : Int)), (16, vi i3)], ac [(0, bk), (1, .lst true (some 4) (List.map aC l2))], 2⟩
   have hc7 : ¬ (decide (i3 < (a0.length : Int)) = true) := fun hq => hgo5 (of_decide_eq_true hq)
   refine ak ⟨tab [(2, .ptr 0 0 0), (4, .loc 1 0 l2.length), (14, ck a0), (15, vi (a0.length : Int)), (16, vi i3), (17, vb (decide (i3 < (a0.length : Int))))], ac [(0, bk), (1, .lst true (some 4) (List.map aC l2))], 2⟩ ?_ ?_
   ·
    refine q1 _ ?_
    exact nR [0, 1]
   refine aN ?_
   refine aS (t := decide (i3 < (a0.length : Int))) rfl hc7 ?_
   refine aX (s0 := ⟨tab [(2, .ptr 0 0 0), (4, .loc 1 0 l2.length)], ac [(0, bk), (1, .lst true (some 4) (List.map aC l2))], 2⟩) (nr [0, 1]) ?_
   refine cz ?_
   exact And.intro rfl rfl
  refine aN ?_
  refine ak ⟨tab [(2, .ptr 0 0 0), (4, .loc 1 0 z29.length), (115, vb ((z29.length : Int) == 0))], ac [(0, bk), (1, .lst true (some 4) (List.map aC z29))], 2⟩ ?_ ?_
  ·
   iterate 3 refine q1 _ ?_
   exact nR [0, 1]
  by_cases hc30 : ((z29.length : Int) == 0) = true
  ·
   replace h := aG hc30 h
   refine aT (t := ((z29.length : Int) == 0)) rfl hc30 ?_
   refine ak ⟨tab [(2, .ptr 0 0 0), (3, vb false)], ac [(0, bk)], 1⟩ ?_ ?_
   ·
    refine step (v := vs1 (aj.mk 0 0 0 [])) (dj (ds := [.int .i64 0, .int .i64 0, .int .u16 0, eL (some 4) aC []]) rfl) ?_
    refine step (v := V.undef) (σ' := (al (ac [(0, bk), (1, .lst true (some 4) (List.map aC z29))]) 0 (some (bk)))) (n' := 2) rfl ?_
    refine q1 _ ?_
    exact nR [0]
   have hh := ap h
   subst hh
   refine aV ?_
   show FQ _ _ _ _
   exact iL (.inr rfl) (gl (ds := [.int .i64 0, .int .i64 0, .int .u16 0, eL (some 4) aC []]) rfl rfl (show 4 ≤ 4 by decide) rfl (bn (v := vb false) rfl rfl)) (RV.d (RV.d trivial))
  ·
   replace h := aH hc30 h
   refine aS (t := ((z29.length : Int) == 0)) rfl hc30 ?_
   refine bm ?_
   obtain ⟨x31, hx31, h⟩ := aq h
   refine ak ⟨tab [(2, .ptr 0 0 0), (3, vb true)], ac [(0, bY x31)], 1⟩ ?_ ?_
   ·
    iterate 4 refine q1 _ ?_
    refine step (v := .ptr 1 (IntKind.i64.wrap ((z29.length : Int) - 1)).toNat 0) (eI (xs := z29) (e := aC) hx31 rfl rfl rfl rfl) ?_
    refine step (v := vs1 x31) (n5 (xs := z29) (e := aC) hx31 rfl rfl (bP _) rfl) ?_
    refine step (v := V.undef) (σ' := (al (ac [(0, bk), (1, .lst true (some 4) (List.map aC z29))]) 0 (some (bY x31)))) (n' := 2) rfl ?_
    refine q1 _ ?_
    exact nR [0]
   have hh := ap h
   subst hh
   refine aV ?_
   show FQ _ _ _ _
   exact iL (.inr rfl) (gl (ds := [.int .i64 x31.Op, .int .i64 x31.F, .int .u16 x31.N, eL (some 4) aC x31.Kids]) rfl rfl (show 4 ≤ 4 by decide) rfl (bn (v := vb true) rfl rfl)) (RV.d (RV.d trivial))
theorem vV {self : aj → Option Int} (hself : ∀ (a0 : aj) (r : Int), self a0 = some r → PCall Try.prog 52 [bo a0] (.int .i64 r)) {a0 : aj} {r : Int} (h : lK self a0 = some r) : PCall Try.prog 52 [bo a0] (.int .i64 r) := by
 refine PCall.introN uO (show 1 ≤ 21 by decide) ?_
 refine aX (s0 := ⟨tab [(0, vs1 a0)], ac [], 0⟩) (nr []) ?_
 refine ak ⟨tab [(1, aI a0)], ac [], 0⟩ ?_ ?_
 ·
  iterate 2 refine q1 _ ?_
  exact nR []
 refine ak ⟨tab [(1, aI a0), (3, vi 1)], ac [], 0⟩ ?_ ?_
 ·
  refine q1 _ ?_
  exact nR []
 refine aN ?_
 refine ak ⟨tab [(1, aI a0), (3, vi 1), (4, vi 0)], ac [], 0⟩ ?_ ?_
 ·
  refine q1 _ ?_
  exact nR []
 obtain ⟨z10, hl, h⟩ := aq h
 refine bE ?_
 refine ft (cK (a0.Kids.length : Int)) (fun (i2 : Int) (qq : Int) => ⟨tab [(1, aI a0), (3, vi qq), (4, vi i2)], ac [], 0⟩) 0 (fun (qq : Int) => ⟨tab [(3, vi qq)], ac [], 0⟩) bJ cL hl (by unfold bJ; omega) ?_ ?_ ?_
 ·
  rintro i2 i1 xr7 hinv5 hgo4 h
  show aP _ _ _ _ _ ⟨tab [(1, aI a0), (3, vi i1), (4, vi i2)], ac [], 0⟩
  have hc6 : decide (i2 < (a0.Kids.length : Int)) = true := decide_eq_true hgo4
  refine aN ?_
  refine ak ⟨tab [(1, aI a0), (3, vi i1), (4, vi i2), (8, vi (a0.Kids.length : Int)), (9, vb (decide (i2 < (a0.Kids.length : Int))))], ac [], 0⟩ ?_ ?_
  ·
   iterate 3 refine q1 _ ?_
   refine step (v := vi (a0.Kids.length : Int)) (bI (xs := a0.Kids) (e := aC) rfl) ?_
   refine q1 _ ?_
   exact nR []
  refine cJ 8 rfl fun hB3 => ?_
  refine aT (t := decide (i2 < (a0.Kids.length : Int))) rfl hc6 ?_
  refine bm ?_
  refine aN ?_
  refine bE ?_
  obtain ⟨x8, hx8, h⟩ := aq h
  obtain ⟨r9, hr9, h⟩ := aq h
  refine bN ⟨tab [(1, aI a0), (3, vi (IntKind.i64.wrap (i1 + r9))), (4, vi i2)], ac [], 0⟩ ?_ ?_
  ·
   iterate 4 refine q1 _ ?_
   refine step (v := aI x8) (dq (xs := a0.Kids) (e := aC) hx8 rfl rfl (bP _)) ?_
   refine q1 _ ?_
   refine a9 (r := .int .i64 r9) (aF aL.nil') (hself _ _ hr9) ?_
   iterate 2 refine q1 _ ?_
   exact nR []
  have hh := ap h
  subst hh
  refine bN ⟨tab [(1, aI a0), (3, vi (IntKind.i64.wrap (i1 + r9))), (4, vi (i2 + 1))], ac [], 0⟩ ?_ ?_
  ·
   refine q1 _ ?_
   refine step (v := vi (i2 + 1)) (cM (cN hinv5 hgo4 hB3) rfl rfl) ?_
   refine q1 _ ?_
   exact nR []
  exact And.intro rfl rfl
 ·
  rintro i2 i1 hinv5 hgo4
  show aP _ _ _ _ _ ⟨tab [(1, aI a0), (3, vi i1), (4, vi i2)], ac [], 0⟩
  have hc6 : ¬ (decide (i2 < (a0.Kids.length : Int)) = true) := fun hq => hgo4 (of_decide_eq_true hq)
  refine aN ?_
  refine ak ⟨tab [(1, aI a0), (3, vi i1), (4, vi i2), (9, vb (decide (i2 < (a0.Kids.length : Int))))], ac [], 0⟩ ?_ ?_
  ·
   iterate 3 refine q1 _ ?_
   refine step (v := vi (a0.Kids.length : Int)) (bI (xs := a0.Kids) (e := aC) rfl) ?_
   refine q1 _ ?_
   exact nR []
  refine aS (t := decide (i2 < (a0.Kids.length : Int))) rfl hc6 ?_
  refine aX (s0 := ⟨tab [(3, vi i1)], ac [], 0⟩) (nr []) ?_
  refine cz ?_
  exact And.intro rfl rfl
 refine ak ⟨tab [(2, vi z10)], ac [], 0⟩ ?_ ?_
 ·
  iterate 2 refine q1 _ ?_
  exact nR []
 have hh := ap h
 subst hh
 refine aV ?_
 show FQ _ _ _ _
 exact bh (.inr rfl) (bn (v := vi z10) rfl rfl) (RV.d trivial)
theorem pv : ∀ (k : Nat) (a0 : aj) (r : Int), iT k a0 = some r → PCall Try.prog 52 [bo a0] (.int .i64 r)
 | 0, _, _, h => by cases h
 | k + 1, _, _, h => vV (pv k) h
theorem pw {a0 : aj} {r : Int} (h : g8 a0 = some r) : PCall Try.prog 52 [bo a0] (.int .i64 r) := pv cm _ _ h
theorem vW {self : aj → Option Int} (hself : ∀ (a0 : aj) (r : Int), self a0 = some r → PCall Try.prog 53 [bo a0] (.int .i64 r)) {a0 : aj} {r : Int} (h : lL self a0 = some r) : PCall Try.prog 53 [bo a0] (.int .i64 r) := by
 refine PCall.introN uR (show 1 ≤ 22 by decide) ?_
 refine aX (s0 := ⟨tab [(0, vs1 a0)], ac [], 0⟩) (nr []) ?_
 refine ak ⟨tab [(1, aI a0)], ac [], 0⟩ ?_ ?_
 ·
  iterate 2 refine q1 _ ?_
  exact nR []
 refine ak ⟨tab [(1, aI a0), (3, vi 0)], ac [], 0⟩ ?_ ?_
 ·
  refine q1 _ ?_
  exact nR []
 refine aN ?_
 refine ak ⟨tab [(1, aI a0), (3, vi 0), (4, vi 0)], ac [], 0⟩ ?_ ?_
 ·
  refine q1 _ ?_
  exact nR []
 obtain ⟨z10, hl, h⟩ := aq h
 refine bE ?_
 refine ft (cK (a0.Kids.length : Int)) (fun (i2 : Int) (qq : Int) => ⟨tab [(1, aI a0), (3, vi qq), (4, vi i2)], ac [], 0⟩) 0 (fun (qq : Int) => ⟨tab [(3, vi qq)], ac [], 0⟩) bJ cL hl (by unfold bJ; omega) ?_ ?_ ?_
 ·
  rintro i2 i1 xr7 hinv5 hgo4 h
  show aP _ _ _ _ _ ⟨tab [(1, aI a0), (3, vi i1), (4, vi i2)], ac [], 0⟩
  have hc6 : decide (i2 < (a0.Kids.length : Int)) = true := decide_eq_true hgo4
  refine aN ?_
  refine ak ⟨tab [(1, aI a0), (3, vi i1), (4, vi i2), (8, vi (a0.Kids.length : Int)), (9, vb (decide (i2 < (a0.Kids.length : Int))))], ac [], 0⟩ ?_ ?_
  ·
   iterate 3 refine q1 _ ?_
   refine step (v := vi (a0.Kids.length : Int)) (bI (xs := a0.Kids) (e := aC) rfl) ?_
   refine q1 _ ?_
   exact nR []
  refine cJ 8 rfl fun hB3 => ?_
  refine aT (t := decide (i2 < (a0.Kids.length : Int))) rfl hc6 ?_
  refine bm ?_
  refine aN ?_
  refine bE ?_
  obtain ⟨x8, hx8, h⟩ := aq h
  obtain ⟨r9, hr9, h⟩ := aq h
  refine bN ⟨tab [(1, aI a0), (3, vi (gf i1 r9)), (4, vi i2)], ac [], 0⟩ ?_ ?_
  ·
   iterate 4 refine q1 _ ?_
   refine step (v := aI x8) (dq (xs := a0.Kids) (e := aC) hx8 rfl rfl (bP _)) ?_
   refine q1 _ ?_
   refine a9 (r := .int .i64 r9) (aF aL.nil') (hself _ _ hr9) ?_
   iterate 2 refine q1 _ ?_
   exact nR []
  have hh := ap h
  subst hh
  refine bN ⟨tab [(1, aI a0), (3, vi (gf i1 r9)), (4, vi (i2 + 1))], ac [], 0⟩ ?_ ?_
  ·
   refine q1 _ ?_
   refine step (v := vi (i2 + 1)) (cM (cN hinv5 hgo4 hB3) rfl rfl) ?_
   refine q1 _ ?_
   exact nR []
  exact And.intro rfl rfl
 ·
  rintro i2 i1 hinv5 hgo4
  show aP _ _ _ _ _ ⟨tab [(1, aI a0), (3, vi i1), (4, vi i2)], ac [], 0⟩
  have hc6 : ¬ (decide (i2 < (a0.Kids.length : Int)) = true) := fun hq => hgo4 (of_decide_eq_true hq)
  refine aN ?_
  refine ak ⟨tab [(1, aI a0), (3, vi i1), (4, vi i2), (9, vb (decide (i2 < (a0.Kids.length : Int))))], ac [], 0⟩ ?_ ?_
  ·
   iterate 3 refine q1 _ ?_
   refine step (v := vi (a0.Kids.length : Int)) (bI (xs := a0.Kids) (e := aC) rfl) ?_
   refine q1 _ ?_
   exact nR []
  refine aS (t := decide (i2 < (a0.Kids.length : Int))) rfl hc6 ?_
  refine aX (s0 := ⟨tab [(3, vi i1)], ac [], 0⟩) (nr []) ?_
  refine cz ?_
  exact And.intro rfl rfl
 refine ak ⟨tab [(2, vi (IntKind.i64.wrap (z10 + 1)))], ac [], 0⟩ ?_ ?_
 ·
  iterate 3 refine q1 _ ?_
  exact nR []
 have hh := ap h
 subst hh
 refine aV ?_
 show FQ _ _ _ _
 exact bh (.inr rfl) (bn (v := vi (IntKind.i64.wrap (z10 + 1))) rfl rfl) (RV.d trivial)
theorem px : ∀ (k : Nat) (a0 : aj) (r : Int), iU k a0 = some r → PCall Try.prog 53 [bo a0] (.int .i64 r)
 | 0, _, _, h => by cases h
 | k + 1, _, _, h => vW (px k) h
theorem py {a0 : aj} {r : Int} (h : g9 a0 = some r) : PCall Try.prog 53 [bo a0] (.int .i64 r) := px cm _ _ h
theorem vX {self : aj → Option Bool} (hself : ∀ (a0 : aj) (r : Bool), self a0 = some r → PCall Try.prog 22 [bo a0] (.bool r)) {a0 : aj} {r : Bool} (h : jV self a0 = some r) : PCall Try.prog 22 [bo a0] (.bool r) := by
 refine PCall.introN uU (show 1 ≤ 39 by decide) ?_
 refine aX (s0 := ⟨tab [(0, vs1 a0)], ac [], 0⟩) (nr []) ?_
 refine ak ⟨tab [(1, aI a0)], ac [], 0⟩ ?_ ?_
 ·
  iterate 2 refine q1 _ ?_
  exact nR []
 refine aN ?_
 refine ak ⟨tab [(1, aI a0), (16, vb ((a0.Op == 5) || ((decide (a0.Op < 0)) || (decide (a0.Op > 7)))))], ac [], 0⟩ ?_ ?_
 ·
  iterate 4 refine q1 _ ?_
  by_cases hg1 : (a0.Op == 5) = true
  ·
   iterate 3 refine qX (a0.Op == 5) (by rw [hg1]; decide) ?_
   refine step (v := vb true) (aJ (b := (a0.Op == 5)) rfl hg1 rfl) ?_
   refine q1 _ ?_
   iterate 3 refine qX true (by decide) ?_
   refine step (v := vb true) (aJ (b := true) rfl rfl rfl) ?_
   exact aU.nil' (nm [] ⟨.d _, .eq (by first | (simp [hg1]; done) | (simp_all; done) | grind), trivial⟩ trivial)
  ·
   refine qG (a0.Op == 5) (Bool.eq_false_iff.2 hg1) ?_
   refine q1 _ ?_
   refine qG (a0.Op == 5) (Bool.eq_false_iff.2 hg1) ?_
   refine q1 _ ?_
   refine qG (a0.Op == 5) (Bool.eq_false_iff.2 hg1) ?_
   refine q1 _ ?_
   refine step (v := vb (decide (a0.Op < 0))) (aM (b := (a0.Op == 5)) rfl hg1 rfl) ?_
   refine q1 _ ?_
   by_cases hg2 : decide (a0.Op < 0) = true
   ·
    iterate 3 refine qX (decide (a0.Op < 0)) (by rw [hg2]; decide) ?_
    refine step (v := vb true) (aJ (b := decide (a0.Op < 0)) rfl hg2 rfl) ?_
    exact aU.nil' (nm [] ⟨.d _, .eq (by first | (simp [hg1, hg2]; done) | (simp_all; done) | grind), trivial⟩ trivial)
   ·
    refine qG (decide (a0.Op < 0)) (Bool.eq_false_iff.2 hg2) ?_
    refine q1 _ ?_
    refine qG (decide (a0.Op < 0)) (Bool.eq_false_iff.2 hg2) ?_
    refine q1 _ ?_
    refine qG (decide (a0.Op < 0)) (Bool.eq_false_iff.2 hg2) ?_
    refine q1 _ ?_
    refine step (v := vb (decide (a0.Op > 7))) (aM (b := decide (a0.Op < 0)) rfl hg2 rfl) ?_
    exact aU.nil' (nm [] ⟨.d _, .eq (by first | (simp [hg1, hg2]; done) | (simp_all; done) | grind), trivial⟩ trivial)
 by_cases hc3 : ((a0.Op == 5) || ((decide (a0.Op < 0)) || (decide (a0.Op > 7)))) = true
 ·
  replace h := aG hc3 h
  refine aT (t := ((a0.Op == 5) || ((decide (a0.Op < 0)) || (decide (a0.Op > 7))))) rfl hc3 ?_
  refine ak ⟨tab [(2, vb false)], ac [], 0⟩ ?_ ?_
  ·
   refine q1 _ ?_
   exact nR []
  have hh := ap h
  subst hh
  refine aV ?_
  show FQ _ _ _ _
  exact bh (.inr rfl) (bn (v := vb false) rfl rfl) (RV.d trivial)
 ·
  replace h := aH hc3 h
  refine aS (t := ((a0.Op == 5) || ((decide (a0.Op < 0)) || (decide (a0.Op > 7))))) rfl hc3 ?_
  refine bm ?_
  obtain ⟨q16, hv, h⟩ := aq h
  refine nU (fun (qq : Unit) => ⟨tab [], ac [], 0⟩) (xv := q16) (r := r) ?_ ?_ ?_
  ·
   replace h := hv
   refine ak ⟨tab [(1, aI a0), (24, vb ((a0.Op == 6) || (a0.Op == 7)))], ac [], 0⟩ ?_ ?_
   ·
    iterate 4 refine q1 _ ?_
    by_cases hg4 : (a0.Op == 6) = true
    ·
     iterate 3 refine qX (a0.Op == 6) (by rw [hg4]; decide) ?_
     refine step (v := vb true) (aJ (b := (a0.Op == 6)) rfl hg4 rfl) ?_
     exact aU.nil' (nm [] ⟨.d _, .eq (by first | (simp [hg4]; done) | (simp_all; done) | grind), trivial⟩ trivial)
    ·
     refine qG (a0.Op == 6) (Bool.eq_false_iff.2 hg4) ?_
     refine q1 _ ?_
     refine qG (a0.Op == 6) (Bool.eq_false_iff.2 hg4) ?_
     refine q1 _ ?_
     refine qG (a0.Op == 6) (Bool.eq_false_iff.2 hg4) ?_
     refine q1 _ ?_
     refine step (v := vb (a0.Op == 7)) (aM (b := (a0.Op == 6)) rfl hg4 rfl) ?_
     exact aU.nil' (nm [] ⟨.d _, .eq (by first | (simp [hg4]; done) | (simp_all; done) | grind), trivial⟩ trivial)
   by_cases hc5 : ((a0.Op == 6) || (a0.Op == 7)) = true
   ·
    replace h := aG hc5 h
    refine aT (t := ((a0.Op == 6) || (a0.Op == 7))) rfl hc5 ?_
    refine ak ⟨tab [(1, aI a0), (3, vi 0)], ac [], 0⟩ ?_ ?_
    ·
     refine q1 _ ?_
     exact nR []
    obtain ⟨q15, hl, h⟩ := aq h
    refine bE ?_
    refine ey (cK (a0.Kids.length : Int)) (fun (i6 : Int) (qq : Unit) => ⟨tab [(1, aI a0), (3, vi i6)], ac [], 0⟩) 0 (fun (qq : Unit) => ⟨tab [], ac [], 0⟩) bJ cL (r := q16) hl (by unfold bJ; omega) ?_ ?_ ?_ ?_
    ·
     rintro i6 ⟨⟩ xr11 hinv9 hgo8 h
     show aP _ _ _ _ _ ⟨tab [(1, aI a0), (3, vi i6)], ac [], 0⟩
     have hc10 : decide (i6 < (a0.Kids.length : Int)) = true := decide_eq_true hgo8
     refine aN ?_
     refine ak ⟨tab [(1, aI a0), (3, vi i6), (28, vi (a0.Kids.length : Int)), (29, vb (decide (i6 < (a0.Kids.length : Int))))], ac [], 0⟩ ?_ ?_
     ·
      iterate 3 refine q1 _ ?_
      refine step (v := vi (a0.Kids.length : Int)) (bI (xs := a0.Kids) (e := aC) rfl) ?_
      refine q1 _ ?_
      exact nR []
     refine cJ 28 rfl fun hB7 => ?_
     refine aT (t := decide (i6 < (a0.Kids.length : Int))) rfl hc10 ?_
     refine bm ?_
     refine aN ?_
     refine bE ?_
     obtain ⟨x12, hx12, h⟩ := aq h
     obtain ⟨r13, hr13, h⟩ := aq h
     refine ak ⟨tab [(1, aI a0), (3, vi i6), (38, vb (!r13))], ac [], 0⟩ ?_ ?_
     ·
      iterate 3 refine q1 _ ?_
      refine step (v := aI x12) (dq (xs := a0.Kids) (e := aC) hx12 rfl rfl (bP _)) ?_
      refine q1 _ ?_
      refine a9 (r := .bool r13) (aF aL.nil') (hself _ _ hr13) ?_
      refine q1 _ ?_
      exact nR []
     by_cases hc14 : (!r13) = true
     ·
      replace h := aG hc14 h
      refine aT (t := (!r13)) rfl hc14 ?_
      refine ak ⟨tab [(2, vb false)], ac [], 0⟩ ?_ ?_
      ·
       refine q1 _ ?_
       exact nR []
      obtain ⟨r15, kr15, hr⟩ := c5 (o := some (Sum.inr false)) (g := Br.ret) h
      subst hr
      have h := kr15
      obtain ⟨r16, kr16, hr⟩ := c5 (o := some false) (g := Sum.inr) h
      subst hr
      have h := kr16
      have hh := ap h
      subst hh
      refine aV ?_
      refine And.intro (fun hn => nomatch hn) ?_
      intro hq
      have hq := hq.symm
      subst hq
      refine And.intro (fun hn => nomatch hn) ?_
      intro hq
      have hq := hq.symm
      subst hq
      show FQ _ _ _ _
      exact bh (.inr rfl) (bn (v := vb false) rfl rfl) (RV.d trivial)
     ·
      replace h := aH hc14 h
      refine aS (t := (!r13)) rfl hc14 ?_
      refine bm ?_
      have hh := ap h
      subst hh
      refine bN ⟨tab [(1, aI a0), (3, vi (i6 + 1))], ac [], 0⟩ ?_ ?_
      ·
       refine q1 _ ?_
       refine step (v := vi (i6 + 1)) (cM (cN hinv9 hgo8 hB7) rfl rfl) ?_
       refine q1 _ ?_
       exact nR []
      exact And.intro rfl rfl
    ·
     rintro i6 ⟨⟩ hinv9 hgo8
     show aP _ _ _ _ _ ⟨tab [(1, aI a0), (3, vi i6)], ac [], 0⟩
     have hc10 : ¬ (decide (i6 < (a0.Kids.length : Int)) = true) := fun hq => hgo8 (of_decide_eq_true hq)
     refine aN ?_
     refine ak ⟨tab [(1, aI a0), (3, vi i6), (29, vb (decide (i6 < (a0.Kids.length : Int))))], ac [], 0⟩ ?_ ?_
     ·
      iterate 3 refine q1 _ ?_
      refine step (v := vi (a0.Kids.length : Int)) (bI (xs := a0.Kids) (e := aC) rfl) ?_
      refine q1 _ ?_
      exact nR []
     refine aS (t := decide (i6 < (a0.Kids.length : Int))) rfl hc10 ?_
     refine aX (s0 := ⟨tab [], ac [], 0⟩) (nr []) ?_
     refine cz ?_
     exact And.intro rfl rfl
    ·
     intro r' hq
     subst hq
     exact ap h
    rintro ⟨⟩ rfl
    have hh := ap h
    subst hh
    exact And.intro rfl rfl
   ·
    replace h := aH hc5 h
    refine aS (t := ((a0.Op == 6) || (a0.Op == 7))) rfl hc5 ?_
    have hh := ap h
    subst hh
    refine aX (s0 := ⟨tab [], ac [], 0⟩) (nr []) ?_
    refine bm ?_
    exact And.intro rfl rfl
  ·
   intro r' hq
   subst hq
   exact ap h
  rintro ⟨⟩ rfl
  show aP _ _ _ _ _ ⟨tab [], ac [], 0⟩
  refine ak ⟨tab [(2, vb true)], ac [], 0⟩ ?_ ?_
  ·
   refine q1 _ ?_
   exact nR []
  have hh := ap h
  subst hh
  refine aV ?_
  show FQ _ _ _ _
  exact bh (.inr rfl) (bn (v := vb true) rfl rfl) (RV.d trivial)
theorem pz : ∀ (k : Nat) (a0 : aj) (r : Bool), hE k a0 = some r → PCall Try.prog 22 [bo a0] (.bool r)
 | 0, _, _, h => by cases h
 | k + 1, _, _, h => vX (pz k) h
theorem me {a0 : aj} {r : Bool} (h : iV a0 = some r) : PCall Try.prog 22 [bo a0] (.bool r) := pz cm _ _ h
end Go.AM
