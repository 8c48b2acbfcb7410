import Derived.Test.YtnnkfanmokeiaaaWeE
set_option linter.unusedVariables false
set_option linter.unusedSimpArgs false
namespace Go.AM
open Go Go.RowKit Go.Proofs
attribute [local irreducible] bh bX
set_option maxHeartbeats 2000000
theorem iX {a0 : List (A8 Int)} {r : List (A8 Int)} (h : gn a0 = some r) : bO Try.prog 93 [.d (.vec (some 8) (List.map (eA8 (D.int .u16)) a0))] (ac []) 0 (.loc 0 0 r.length) (ac [(0, .lst true (some 8) (List.map (eA8 (D.int .u16)) r))]) 1 := by
 cases a0 with
 | nil =>
  refine bO.empty ?_ ?_
  ·
   have h : some ([] : List (A8 Int)) = some r := by simpa [gn, du] using h
   refine bO.introN (bl := []) (bl' := [(0, .lst true (some 8) (List.map (eA8 (D.int .u16)) r))]) kE (show 1 ≤ 8 by decide) rfl ?_
   refine aX (s0 := ⟨tab [(0, .d (.nils))], ac [], 0⟩) (nr []) ?_
   refine al ⟨tab [(0, .d (.nils))], ac [], 0⟩ ?_ ?_
   ·
    refine q1 _ ?_
    exact nR []
   refine aF ?_
   refine al ⟨tab [(0, .d (.nils)), (4, vb true)], ac [], 0⟩ ?_ ?_
   ·
    iterate 2 refine q1 _ ?_
    exact nR []
   refine aU (t := true) rfl rfl ?_
   refine al ⟨tab [(2, .d (.nils))], ac [], 0⟩ ?_ ?_
   ·
    refine q1 _ ?_
    exact nR []
   have hh := ar h
   subst hh
   refine aX (s0 := ⟨tab [(2, .loc 0 0 (([] : List (A8 Int)).length))], ac [(0, .lst true (some 8) (List.map (eA8 (D.int .u16)) ([] : List (A8 Int))))], 1⟩) (bK.trans (s2 := ⟨tab [(2, .loc 0 0 (([] : List (A8 Int)).length))], ac [(0, .lst true (some 8) (List.map (eA8 (D.int .u16)) ([] : List (A8 Int))))], 1⟩) (iC 2 true (some 8) rfl) (nr [0])) ?_
   refine aN ?_
   exact ⟨.inr rfl, _, rfl, rfl, ct.sub ⟨rfl, trivial⟩, rfl⟩
  ·
   refine bO.introN (bl := []) (bl' := [(0, .lst true (some 8) (List.map (eA8 (D.int .u16)) r))]) kE (show 1 ≤ 8 by decide) rfl ?_
   refine aX (s0 := ⟨tab [(0, .mapr 0)], ac [], 0⟩) (nm [] ⟨.mp _, trivial⟩ trivial) ?_
   refine al ⟨tab [(0, .mapr 0)], ac [], 0⟩ ?_ ?_
   ·
    refine q1 _ ?_
    exact bh.nil' (nm [] ⟨.mp _, trivial⟩ trivial)
   refine aF ?_
   refine al ⟨tab [(0, .d (eL (some 8) (eA8 (D.int .u16)) ([] : List (A8 Int)))), (4, vb false)], ac [], 0⟩ ?_ ?_
   ·
    iterate 2 refine q1 _ ?_
    exact bh.nil' (nm [] ⟨.nne _ _, .d _, trivial⟩ trivial)
   refine aT (t := false) rfl (by decide) ?_
   refine bd ?_
   obtain ⟨l1, hl1, h⟩ := aw h
   refine al ⟨tab [(2, .loc 0 0 l1.length)], ac [(0, .lst true (some 8) (List.map (eA8 (D.int .u16)) l1))], 1⟩ ?_ ?_
   ·
    refine step (v := .loc 0 0 (([] : List (A8 Int)).length)) (σ' := (ak (ac []) 0 (some (.lst true (some 8) (List.map (eA8 (D.int .u16)) ([] : List (A8 Int))))))) (n' := 1) rfl ?_
    refine q1 _ ?_
    refine step (v := .loc 1 0 l1.length) (σ' := (ak (ak (ak (ac []) 0 (some (.lst true (some 8) (List.map (eA8 (D.int .u16)) ([] : List (A8 Int)))))) 0 none) 1 (some (.lst true (some 8) (List.map (eA8 (D.int .u16)) l1))))) (n' := 2) (eQ (xs := ([] : List (A8 Int))) (ys := ([] : List (A8 Int))) (e := (eA8 (D.int .u16))) hl1 rfl rfl rfl (eP (xs := ([] : List (A8 Int))) (e := (eA8 (D.int .u16))) rfl)) ?_
    refine q1 _ ?_
    exact nR [1]
   have hh := ar h
   subst hh
   refine aN ?_
   exact ⟨.inr rfl, _, rfl, rfl, ct.sub ⟨rfl, trivial⟩, rfl⟩
 | cons x xs =>
  refine bO.introN (bl := []) (bl' := [(0, .lst true (some 8) (List.map (eA8 (D.int .u16)) r))]) kE (show 1 ≤ 8 by decide) rfl ?_
  refine aX (s0 := ⟨tab [(0, .d (eL (some 8) (eA8 (D.int .u16)) (x :: xs)))], ac [], 0⟩) (nr []) ?_
  refine al ⟨tab [(0, .d (eL (some 8) (eA8 (D.int .u16)) (x :: xs)))], ac [], 0⟩ ?_ ?_
  ·
   refine q1 _ ?_
   exact nR []
  refine aF ?_
  refine al ⟨tab [(0, .d (eL (some 8) (eA8 (D.int .u16)) (x :: xs))), (4, vb false)], ac [], 0⟩ ?_ ?_
  ·
   iterate 2 refine q1 _ ?_
   exact nR []
  refine aT (t := false) rfl (by decide) ?_
  refine bd ?_
  obtain ⟨l1, hl1, h⟩ := aw h
  refine al ⟨tab [(2, .loc 0 0 l1.length)], ac [(0, .lst true (some 8) (List.map (eA8 (D.int .u16)) l1))], 1⟩ ?_ ?_
  ·
   refine step (v := .loc 0 0 (([] : List (A8 Int)).length)) (σ' := (ak (ac []) 0 (some (.lst true (some 8) (List.map (eA8 (D.int .u16)) ([] : List (A8 Int))))))) (n' := 1) rfl ?_
   refine q1 _ ?_
   refine step (v := .loc 1 0 l1.length) (σ' := (ak (ak (ak (ac []) 0 (some (.lst true (some 8) (List.map (eA8 (D.int .u16)) ([] : List (A8 Int)))))) 0 none) 1 (some (.lst true (some 8) (List.map (eA8 (D.int .u16)) l1))))) (n' := 2) (eQ (xs := ([] : List (A8 Int))) (ys := (x :: xs)) (e := (eA8 (D.int .u16))) hl1 rfl rfl rfl (eP (xs := (x :: xs)) (e := (eA8 (D.int .u16))) rfl)) ?_
   refine q1 _ ?_
   exact nR [1]
  have hh := ar h
  subst hh
  refine aN ?_
  exact ⟨.inr rfl, _, rfl, rfl, ct.sub ⟨rfl, trivial⟩, rfl⟩
theorem ud {self : am → Option Int} (hself : ∀ (a0 : am) (r : Int), self a0 = some r → PCall Try.prog 62 [bY a0] (.int .i64 r)) {a0 : am} {r : Int} (h : mL self a0 = some r) : PCall Try.prog 62 [bY a0] (.int .i64 r) := by
 refine PCall.introN rO (show 1 ≤ 19 by decide) ?_
 refine aX (s0 := ⟨tab [(0, cg a0)], ac [], 0⟩) (nr []) ?_
 refine al ⟨tab [(1, bf a0)], ac [], 0⟩ ?_ ?_
 ·
  iterate 2 refine q1 _ ?_
  exact nR []
 refine al ⟨tab [(1, bf a0), (3, vi 1)], ac [], 0⟩ ?_ ?_
 ·
  refine q1 _ ?_
  exact nR []
 refine aF ?_
 refine al ⟨tab [(3, vi 1), (7, aC a0.Kids), (8, vi (a0.Kids.length : Int)), (9, vi 0)], ac [], 0⟩ ?_ ?_
 ·
  iterate 2 refine q1 _ ?_
  refine step (v := vi (a0.Kids.length : Int)) (bG (xs := a0.Kids) (e := bQ) rfl) ?_
  refine q1 _ ?_
  exact nR []
 obtain ⟨z10, hl, h⟩ := aw h
 refine bz ?_
 refine fN (cA (a0.Kids.length : Int)) (fun (i2 : Int) (qq : Int) => ⟨tab [(3, vi qq), (7, aC a0.Kids), (8, vi (a0.Kids.length : Int)), (9, vi i2)], ac [], 0⟩) 0 (fun (qq : Int) => ⟨tab [(3, vi qq)], ac [], 0⟩) bF cB hl (by unfold bF; omega) ?_ ?_ ?_
 ·
  rintro i2 i1 xr7 hinv5 hgo4 h
  show aK _ _ _ _ _ ⟨tab [(3, vi i1), (7, aC a0.Kids), (8, vi (a0.Kids.length : Int)), (9, vi i2)], ac [], 0⟩
  have hc6 : decide (i2 < (a0.Kids.length : Int)) = true := decide_eq_true hgo4
  refine al ⟨tab [(3, vi i1), (7, aC a0.Kids), (8, vi (a0.Kids.length : Int)), (9, vi i2), (10, vb (decide (i2 < (a0.Kids.length : Int))))], ac [], 0⟩ ?_ ?_
  ·
   refine q1 _ ?_
   exact nR []
  refine cz 8 rfl fun hB3 => ?_
  refine aF ?_
  refine aU (t := decide (i2 < (a0.Kids.length : Int))) rfl hc6 ?_
  refine bd ?_
  refine aF ?_
  refine bz ?_
  obtain ⟨x8, hx8, h⟩ := aw h
  refine al ⟨tab [(3, vi i1), (5, .ptr 0 0 0), (7, aC a0.Kids), (8, vi (a0.Kids.length : Int)), (9, vi i2)], ac [(0, cw x8)], 1⟩ ?_ ?_
  ·
   refine step (v := bf x8) (fp (xs := a0.Kids) (e := bQ) hx8 rfl rfl (eG _)) ?_
   refine q1 _ ?_
   refine step (v := .ptr 0 0 0) (σ' := (ak (ac []) 0 (some (.var [vi 0, vi 0, vh 0, aC []])))) (n' := 1) rfl ?_
   refine step (v := V.undef) (σ' := (ak (ak (ac []) 0 (some (.var [vi 0, vi 0, vh 0, aC []]))) 0 (some (cw x8)))) (n' := 1) rfl ?_
   exact nR [0]
  obtain ⟨r9, hr9, h⟩ := aw h
  refine bT ⟨tab [(3, vi (IntKind.i64.wrap (i1 + r9))), (7, aC a0.Kids), (8, vi (a0.Kids.length : Int)), (9, vi i2)], ac [], 0⟩ ?_ ?_
  ·
   refine q1 _ ?_
   refine step (v := cg x8) (b5 (ds := [.int .i64 x8.Op, .int .i64 x8.F, .int .u16 x8.N, eL (some 4) bQ x8.Kids]) rfl rfl (show 4 ≤ 4 by decide) rfl) ?_
   refine bx (r := .int .i64 r9) (aI aS.nil') (hself _ _ hr9) ?_
   iterate 2 refine q1 _ ?_
   exact nR []
  have hh := ar h
  subst hh
  refine bT ⟨tab [(3, vi (IntKind.i64.wrap (i1 + r9))), (7, aC a0.Kids), (8, vi (a0.Kids.length : Int)), (9, vi (i2 + 1))], ac [], 0⟩ ?_ ?_
  ·
   refine step (v := vi (i2 + 1)) (cC (cD hinv5 hgo4 hB3) rfl rfl) ?_
   refine q1 _ ?_
   exact nR []
  exact And.intro rfl rfl
 ·
  rintro i2 i1 hinv5 hgo4
  show aK _ _ _ _ _ ⟨tab [(3, vi i1), (7, aC a0.Kids), (8, vi (a0.Kids.length : Int)), (9, vi i2)], ac [], 0⟩
  have hc6 : ¬ (decide (i2 < (a0.Kids.length : Int)) = true) := fun hq => hgo4 (of_decide_eq_true hq)
  refine al ⟨tab [(3, vi i1), (7, aC a0.Kids), (8, vi (a0.Kids.length : Int)), (9, vi i2), (10, vb (decide (i2 < (a0.Kids.length : Int))))], ac [], 0⟩ ?_ ?_
  ·
   refine q1 _ ?_
   exact nR []
  refine aF ?_
  refine aT (t := decide (i2 < (a0.Kids.length : Int))) rfl hc6 ?_
  refine aX (s0 := ⟨tab [(3, vi i1)], ac [], 0⟩) (nr []) ?_
  refine cn ?_
  exact And.intro rfl rfl
 refine al ⟨tab [(2, vi z10)], ac [], 0⟩ ?_ ?_
 ·
  iterate 2 refine q1 _ ?_
  exact nR []
 have hh := ar h
 subst hh
 refine aN ?_
 show FQ _ _ _ _
 exact bn (.inr rfl) (be (v := vi z10) rfl rfl) (RV.d trivial)
theorem nX : ∀ (k : Nat) (a0 : am) (r : Int), j5 k a0 = some r → PCall Try.prog 62 [bY a0] (.int .i64 r)
 | 0, _, _, h => by cases h
 | k + 1, _, _, h => ud (nX k) h
theorem ue {a0 : am} {r : Int} (h : mM a0 = some r) : PCall Try.prog 62 [bY a0] (.int .i64 r) := nX dj _ _ h
theorem uf {self : am → Option Int} (hself : ∀ (a0 : am) (r : Int), self a0 = some r → PCall Try.prog 63 [bY a0] (.int .i64 r)) {a0 : am} {r : Int} (h : mN self a0 = some r) : PCall Try.prog 63 [bY a0] (.int .i64 r) := by
 refine PCall.introN rR (show 1 ≤ 20 by decide) ?_
 refine aX (s0 := ⟨tab [(0, cg a0)], ac [], 0⟩) (nr []) ?_
 refine al ⟨tab [(1, bf a0)], ac [], 0⟩ ?_ ?_
 ·
  iterate 2 refine q1 _ ?_
  exact nR []
 refine al ⟨tab [(1, bf a0), (3, vi 0)], ac [], 0⟩ ?_ ?_
 ·
  refine q1 _ ?_
  exact nR []
 refine aF ?_
 refine al ⟨tab [(3, vi 0), (7, aC a0.Kids), (8, vi (a0.Kids.length : Int)), (9, vi 0)], ac [], 0⟩ ?_ ?_
 ·
  iterate 2 refine q1 _ ?_
  refine step (v := vi (a0.Kids.length : Int)) (bG (xs := a0.Kids) (e := bQ) rfl) ?_
  refine q1 _ ?_
  exact nR []
 obtain ⟨z10, hl, h⟩ := aw h
 refine bz ?_
 refine fN (cA (a0.Kids.length : Int)) (fun (i2 : Int) (qq : Int) => ⟨tab [(3, vi qq), (7, aC a0.Kids), (8, vi (a0.Kids.length : Int)), (9, vi i2)], ac [], 0⟩) 0 (fun (qq : Int) => ⟨tab [(3, vi qq)], ac [], 0⟩) bF cB hl (by unfold bF; omega) ?_ ?_ ?_
 ·
  rintro i2 i1 xr7 hinv5 hgo4 h
  show aK _ _ _ _ _ ⟨tab [(3, vi i1), (7, aC a0.Kids), (8, vi (a0.Kids.length : Int)), (9, vi i2)], ac [], 0⟩
  have hc6 : decide (i2 < (a0.Kids.length : Int)) = true := decide_eq_true hgo4
  refine al ⟨tab [(3, vi i1), (7, aC a0.Kids), (8, vi (a0.Kids.length : Int)), (9, vi i2), (10, vb (decide (i2 < (a0.Kids.length : Int))))], ac [], 0⟩ ?_ ?_
  ·
   refine q1 _ ?_
   exact nR []
  refine cz 8 rfl fun hB3 => ?_
  refine aF ?_
  refine aU (t := decide (i2 < (a0.Kids.length : Int))) rfl hc6 ?_
  refine bd ?_
  refine aF ?_
  refine bz ?_
  obtain ⟨x8, hx8, h⟩ := aw h
  refine al ⟨tab [(3, vi i1), (5, .ptr 0 0 0), (7, aC a0.Kids), (8, vi (a0.Kids.length : Int)), (9, vi i2)], ac [(0, cw x8)], 1⟩ ?_ ?_
  ·
   refine step (v := bf x8) (fp (xs := a0.Kids) (e := bQ) hx8 rfl rfl (eG _)) ?_
   refine q1 _ ?_
   refine step (v := .ptr 0 0 0) (σ' := (ak (ac []) 0 (some (.var [vi 0, vi 0, vh 0, aC []])))) (n' := 1) rfl ?_
   refine step (v := V.undef) (σ' := (ak (ak (ac []) 0 (some (.var [vi 0, vi 0, vh 0, aC []]))) 0 (some (cw x8)))) (n' := 1) rfl ?_
   exact nR [0]
  obtain ⟨r9, hr9, h⟩ := aw h
  refine bT ⟨tab [(3, vi (jN i1 r9)), (7, aC a0.Kids), (8, vi (a0.Kids.length : Int)), (9, vi i2)], ac [], 0⟩ ?_ ?_
  ·
   refine q1 _ ?_
   refine step (v := cg x8) (b5 (ds := [.int .i64 x8.Op, .int .i64 x8.F, .int .u16 x8.N, eL (some 4) bQ x8.Kids]) rfl rfl (show 4 ≤ 4 by decide) rfl) ?_
   refine bx (r := .int .i64 r9) (aI aS.nil') (hself _ _ hr9) ?_
   iterate 2 refine q1 _ ?_
   exact nR []
  have hh := ar h
  subst hh
  refine bT ⟨tab [(3, vi (jN i1 r9)), (7, aC a0.Kids), (8, vi (a0.Kids.length : Int)), (9, vi (i2 + 1))], ac [], 0⟩ ?_ ?_
  ·
   refine step (v := vi (i2 + 1)) (cC (cD hinv5 hgo4 hB3) rfl rfl) ?_
   refine q1 _ ?_
   exact nR []
  exact And.intro rfl rfl
 ·
  rintro i2 i1 hinv5 hgo4
  show aK _ _ _ _ _ ⟨tab [(3, vi i1), (7, aC a0.Kids), (8, vi (a0.Kids.length : Int)), (9, vi i2)], ac [], 0⟩
  have hc6 : ¬ (decide (i2 < (a0.Kids.length : Int)) = true) := fun hq => hgo4 (of_decide_eq_true hq)
  refine al ⟨tab [(3, vi i1), (7, aC a0.Kids), (8, vi (a0.Kids.length : Int)), (9, vi i2), (10, vb (decide (i2 < (a0.Kids.length : Int))))], ac [], 0⟩ ?_ ?_
  ·
   refine q1 _ ?_
   exact nR []
  refine aF ?_
  refine aT (t := decide (i2 < (a0.Kids.length : Int))) rfl hc6 ?_
  refine aX (s0 := ⟨tab [(3, vi i1)], ac [], 0⟩) (nr []) ?_
  refine cn ?_
  exact And.intro rfl rfl
 refine al ⟨tab [(2, vi (IntKind.i64.wrap (z10 + 1)))], ac [], 0⟩ ?_ ?_
 ·
  iterate 3 refine q1 _ ?_
  exact nR []
 have hh := ar h
 subst hh
 refine aN ?_
 show FQ _ _ _ _
 exact bn (.inr rfl) (be (v := vi (IntKind.i64.wrap (z10 + 1))) rfl rfl) (RV.d trivial)
theorem nY : ∀ (k : Nat) (a0 : am) (r : Int), j6 k a0 = some r → PCall Try.prog 63 [bY a0] (.int .i64 r)
 | 0, _, _, h => by cases h
 | k + 1, _, _, h => uf (nY k) h
theorem ug {a0 : am} {r : Int} (h : mO a0 = some r) : PCall Try.prog 63 [bY a0] (.int .i64 r) := nY dj _ _ h
theorem uh {a0 : (List am)} {a1 : am → Option Bool} {g_a1 : D} (hf_a1 : my Try.prog g_a1 bY D.bool a1) {r : Int} (h : mP a0 a1 = some r) : PCall Try.prog 110 [eL (some 4) bQ a0, g_a1] (.int .i64 r) := by
 obtain ⟨fn_a1, cap_a1, rfl, hc_a1⟩ := hf_a1
 refine PCall.introN rU (show 2 ≤ 19 by decide) ?_
 refine aX (s0 := ⟨tab [(0, aC a0), (1, .d (.func fn_a1 cap_a1))], ac [], 0⟩) (nr []) ?_
 refine al ⟨tab [(0, aC a0), (1, .d (.func fn_a1 cap_a1))], ac [], 0⟩ ?_ ?_
 ·
  refine q1 _ ?_
  exact nR []
 refine aF ?_
 refine al ⟨tab [(0, aC a0), (1, .d (.func fn_a1 cap_a1)), (7, vi (a0.length : Int)), (8, vi 0)], ac [], 0⟩ ?_ ?_
 ·
  refine q1 _ ?_
  refine step (v := vi (a0.length : Int)) (bG (xs := a0) (e := bQ) rfl) ?_
  refine q1 _ ?_
  exact nR []
 obtain ⟨q10, hl, h⟩ := aw h
 refine bz ?_
 refine df (cA (a0.length : Int)) (fun (i1 : Int) (qq : Unit) => ⟨tab [(0, aC a0), (1, .d (.func fn_a1 cap_a1)), (7, vi (a0.length : Int)), (8, vi i1)], ac [], 0⟩) 0 (fun (qq : Unit) => ⟨tab [], ac [], 0⟩) bF cB (r := r) hl (by unfold bF; omega) ?_ ?_ ?_ ?_
 ·
  rintro i1 ⟨⟩ xr6 hinv4 hgo3 h
  show aK _ _ _ _ _ ⟨tab [(0, aC a0), (1, .d (.func fn_a1 cap_a1)), (7, vi (a0.length : Int)), (8, vi i1)], ac [], 0⟩
  have hc5 : decide (i1 < (a0.length : Int)) = true := decide_eq_true hgo3
  refine al ⟨tab [(0, aC a0), (1, .d (.func fn_a1 cap_a1)), (7, vi (a0.length : Int)), (8, vi i1), (9, vb (decide (i1 < (a0.length : Int))))], ac [], 0⟩ ?_ ?_
  ·
   refine q1 _ ?_
   exact nR []
  refine cz 7 rfl fun hB2 => ?_
  refine aF ?_
  refine aU (t := decide (i1 < (a0.length : Int))) rfl hc5 ?_
  refine bd ?_
  refine aF ?_
  refine bz ?_
  refine al ⟨tab [(0, aC a0), (1, .d (.func fn_a1 cap_a1)), (5, vi i1), (7, vi (a0.length : Int)), (8, vi i1)], ac [], 0⟩ ?_ ?_
  ·
   iterate 2 refine q1 _ ?_
   exact nR []
  obtain ⟨x7, hx7, h⟩ := aw h
  obtain ⟨x8, hx8, h⟩ := aw h
  refine al ⟨tab [(0, aC a0), (1, .d (.func fn_a1 cap_a1)), (5, vi i1), (7, vi (a0.length : Int)), (8, vi i1), (16, vb x8)], ac [], 0⟩ ?_ ?_
  ·
   iterate 3 refine q1 _ ?_
   refine step (v := bf x7) (fp (xs := a0) (e := bQ) hx7 rfl rfl (eG _)) ?_
   refine q1 _ ?_
   refine mi (r := .bool x8) rfl (aI aS.nil') (hc_a1 _ _ hx8) ?_
   exact nR []
  by_cases hc9 : x8 = true
  ·
   replace h := aO hc9 h
   refine aU (t := x8) rfl hc9 ?_
   refine al ⟨tab [(4, vi i1)], ac [], 0⟩ ?_ ?_
   ·
    iterate 2 refine q1 _ ?_
    exact nR []
   obtain ⟨r10, kr10, hr⟩ := co (o := some i1) (g := Br.ret) h
   subst hr
   have h := kr10
   have hh := ar h
   subst hh
   refine aN ?_
   refine And.intro (fun hn => nomatch hn) ?_
   intro hq
   have hq := hq.symm
   subst hq
   show FQ _ _ _ _
   exact bn (.inr rfl) (be (v := vi i1) rfl rfl) (RV.d trivial)
  ·
   replace h := aP hc9 h
   refine aT (t := x8) rfl hc9 ?_
   refine bd ?_
   have hh := ar h
   subst hh
   refine bT ⟨tab [(0, aC a0), (1, .d (.func fn_a1 cap_a1)), (7, vi (a0.length : Int)), (8, vi (i1 + 1))], ac [], 0⟩ ?_ ?_
   ·
    refine step (v := vi (i1 + 1)) (cC (cD hinv4 hgo3 hB2) rfl rfl) ?_
    refine q1 _ ?_
    exact nR []
   exact And.intro rfl rfl
 ·
  rintro i1 ⟨⟩ hinv4 hgo3
  show aK _ _ _ _ _ ⟨tab [(0, aC a0), (1, .d (.func fn_a1 cap_a1)), (7, vi (a0.length : Int)), (8, vi i1)], ac [], 0⟩
  have hc5 : ¬ (decide (i1 < (a0.length : Int)) = true) := fun hq => hgo3 (of_decide_eq_true hq)
  refine al ⟨tab [(0, aC a0), (1, .d (.func fn_a1 cap_a1)), (7, vi (a0.length : Int)), (8, vi i1), (9, vb (decide (i1 < (a0.length : Int))))], ac [], 0⟩ ?_ ?_
  ·
   refine q1 _ ?_
   exact nR []
  refine aF ?_
  refine aT (t := decide (i1 < (a0.length : Int))) rfl hc5 ?_
  refine aX (s0 := ⟨tab [], ac [], 0⟩) (nr []) ?_
  refine cn ?_
  exact And.intro rfl rfl
 ·
  intro r' hq
  subst hq
  exact ar h
 rintro ⟨⟩ rfl
 refine al ⟨tab [(4, vi (-1))], ac [], 0⟩ ?_ ?_
 ·
  refine q1 _ ?_
  exact nR []
 have hh := ar h
 subst hh
 refine aN ?_
 show FQ _ _ _ _
 exact bn (.inr rfl) (be (v := vi (-1)) rfl rfl) (RV.d trivial)
theorem nZ {a0 : (List am)} {a1 : am → Option Bool} {g_a1 : D} (hf_a1 : my Try.prog g_a1 bY D.bool a1) {r : Bool} (h : j7 a0 a1 = some r) : PCall Try.prog 98 [eL (some 4) bQ a0, g_a1] (.bool r) := by
 obtain ⟨fn_a1, cap_a1, rfl, hc_a1⟩ := hf_a1
 refine PCall.introN rW (show 2 ≤ 9 by decide) ?_
 refine aX (s0 := ⟨tab [(0, aC a0), (1, .d (.func fn_a1 cap_a1))], ac [], 0⟩) (nr []) ?_
 refine al ⟨tab [(0, aC a0), (1, .d (.func fn_a1 cap_a1))], ac [], 0⟩ ?_ ?_
 ·
  refine q1 _ ?_
  exact nR []
 obtain ⟨r1, hr1, h⟩ := aw h
 refine al ⟨tab [(4, vb (decide (r1 ≥ 0)))], ac [], 0⟩ ?_ ?_
 ·
  iterate 2 refine q1 _ ?_
  refine bx (r := .int .i64 r1) (aI (aI aS.nil')) (uh ⟨_, _, rfl, hc_a1⟩ hr1) ?_
  iterate 2 refine q1 _ ?_
  exact nR []
 have hh := ar h
 subst hh
 refine aN ?_
 show FQ _ _ _ _
 exact bn (.inr rfl) (be (v := vb (decide (r1 ≥ 0))) rfl rfl) (RV.d trivial)
theorem ui {self : am → Option Bool} (hself : ∀ (b0 : am) (r : Bool), self b0 = some r → PCall Try.prog 97 [bY b0] (.bool r)) {a0 : am} {r : Bool} (h : mQ self a0 = some r) : PCall Try.prog 109 [bY a0] (.bool r) := by
 refine PCall.introN rY (show 1 ≤ 6 by decide) ?_
 refine aX (s0 := ⟨tab [(0, cg a0)], ac [], 0⟩) (nr []) ?_
 refine al ⟨tab [(1, bf a0)], ac [], 0⟩ ?_ ?_
 ·
  iterate 2 refine q1 _ ?_
  exact nR []
 obtain ⟨r1, hr1, h⟩ := aw h
 refine al ⟨tab [(2, vb (!r1))], ac [], 0⟩ ?_ ?_
 ·
  refine q1 _ ?_
  refine bx (r := .bool r1) (aI aS.nil') (hself _ _ hr1) ?_
  iterate 2 refine q1 _ ?_
  exact nR []
 have hh := ar h
 subst hh
 refine aN ?_
 show FQ _ _ _ _
 exact bn (.inr rfl) (be (v := vb (!r1)) rfl rfl) (RV.d trivial)
theorem uj {self : am → Option Bool} (hself : ∀ (a0 : am) (r : Bool), self a0 = some r → PCall Try.prog 97 [bY a0] (.bool r)) {a0 : am} {r : Bool} (h : mR self a0 = some r) : PCall Try.prog 97 [bY a0] (.bool r) := by
 refine PCall.introN sa (show 1 ≤ 18 by decide) ?_
 refine aX (s0 := ⟨tab [(0, cg a0)], ac [], 0⟩) (nr []) ?_
 refine al ⟨tab [(1, bf a0)], ac [], 0⟩ ?_ ?_
 ·
  iterate 2 refine q1 _ ?_
  exact nR []
 refine aF ?_
 refine al ⟨tab [(1, bf a0), (4, vi a0.Op)], ac [], 0⟩ ?_ ?_
 ·
  iterate 2 refine q1 _ ?_
  exact nR []
 refine bz ?_
 obtain ⟨y5, hv, h⟩ := aw h
 refine eO ⟨tab [(1, bf a0), (4, vi a0.Op), (5, vb y5)], ac [], 0⟩ ?_ ?_
 ·
  replace h := hv
  refine al ⟨tab [(1, bf a0), (4, vi a0.Op), (5, vb (a0.Op == 0))], ac [], 0⟩ ?_ ?_
  ·
   iterate 2 refine q1 _ ?_
   exact nR []
  by_cases hc1 : (a0.Op == 0) = true
  ·
   replace h := aO hc1 h
   refine aU (t := (a0.Op == 0)) rfl hc1 ?_
   have hh := ar h
   subst hh
   refine aX (s0 := ⟨tab [(1, bf a0), (4, vi a0.Op), (5, vb (a0.Op == 0))], ac [], 0⟩) (nr []) ?_
   refine bd ?_
   exact And.intro rfl rfl
  ·
   replace h := aP hc1 h
   refine aT (t := (a0.Op == 0)) rfl hc1 ?_
   refine al ⟨tab [(1, bf a0), (4, vi a0.Op), (5, vb (a0.Op == 1))], ac [], 0⟩ ?_ ?_
   ·
    iterate 2 refine q1 _ ?_
    exact nR []
   by_cases hc2 : (a0.Op == 1) = true
   ·
    replace h := aO hc2 h
    refine aU (t := (a0.Op == 1)) rfl hc2 ?_
    have hh := ar h
    subst hh
    refine aX (s0 := ⟨tab [(1, bf a0), (4, vi a0.Op), (5, vb (a0.Op == 1))], ac [], 0⟩) (nr []) ?_
    refine bd ?_
    exact And.intro rfl rfl
   ·
    replace h := aP hc2 h
    refine aT (t := (a0.Op == 1)) rfl hc2 ?_
    refine al ⟨tab [(1, bf a0), (4, vi a0.Op), (5, vb (a0.Op == 2))], ac [], 0⟩ ?_ ?_
    ·
     iterate 2 refine q1 _ ?_
     exact nR []
    by_cases hc3 : (a0.Op == 2) = true
    ·
     replace h := aO hc3 h
     refine aU (t := (a0.Op == 2)) rfl hc3 ?_
     have hh := ar h
     subst hh
     refine aX (s0 := ⟨tab [(1, bf a0), (4, vi a0.Op), (5, vb (a0.Op == 2))], ac [], 0⟩) (nr []) ?_
     refine bd ?_
     exact And.intro rfl rfl
    ·
     replace h := aP hc3 h
     refine aT (t := (a0.Op == 2)) rfl hc3 ?_
     refine al ⟨tab [(1, bf a0), (4, vi a0.Op), (5, vb (a0.Op == 3))], ac [], 0⟩ ?_ ?_
     ·
      iterate 2 refine q1 _ ?_
      exact nR []
     by_cases hc4 : (a0.Op == 3) = true
     ·
      replace h := aO hc4 h
      refine aU (t := (a0.Op == 3)) rfl hc4 ?_
      have hh := ar h
      subst hh
      refine aX (s0 := ⟨tab [(1, bf a0), (4, vi a0.Op), (5, vb (a0.Op == 3))], ac [], 0⟩) (nr []) ?_
      refine bd ?_
      exact And.intro rfl rfl
     ·
      replace h := aP hc4 h
      refine aT (t := (a0.Op == 3)) rfl hc4 ?_
      have hh := ar h
      subst hh
      refine bT ⟨tab [(1, bf a0), (4, vi a0.Op), (5, vb (a0.Op == 4))], ac [], 0⟩ ?_ ?_
      ·
       iterate 2 refine q1 _ ?_
       exact nR []
      exact And.intro rfl rfl
 by_cases hc7 : y5 = true
 ·
  replace h := aO hc7 h
  refine aU (t := y5) rfl hc7 ?_
  refine al ⟨tab [(2, vb true)], ac [], 0⟩ ?_ ?_
  ·
   refine q1 _ ?_
   exact nR []
  have hh := ar h
  subst hh
  refine aN ?_
  show FQ _ _ _ _
  exact bn (.inr rfl) (be (v := vb true) rfl rfl) (RV.d trivial)
 ·
  replace h := aP hc7 h
  refine aT (t := y5) rfl hc7 ?_
  obtain ⟨y9, hv, h⟩ := aw h
  refine eO ⟨tab [(1, bf a0), (11, vb y9)], ac [], 0⟩ ?_ ?_
  ·
   replace h := hv
   refine al ⟨tab [(1, bf a0), (4, vi a0.Op), (11, vb (a0.Op == 6))], ac [], 0⟩ ?_ ?_
   ·
    iterate 2 refine q1 _ ?_
    exact nR []
   by_cases hc8 : (a0.Op == 6) = true
   ·
    replace h := aO hc8 h
    refine aU (t := (a0.Op == 6)) rfl hc8 ?_
    have hh := ar h
    subst hh
    refine aX (s0 := ⟨tab [(1, bf a0), (11, vb (a0.Op == 6))], ac [], 0⟩) (nr []) ?_
    refine bd ?_
    exact And.intro rfl rfl
   ·
    replace h := aP hc8 h
    refine aT (t := (a0.Op == 6)) rfl hc8 ?_
    have hh := ar h
    subst hh
    refine bT ⟨tab [(1, bf a0), (11, vb (a0.Op == 7))], ac [], 0⟩ ?_ ?_
    ·
     iterate 2 refine q1 _ ?_
     exact nR []
    exact And.intro rfl rfl
  by_cases hc11 : y9 = true
  ·
   replace h := aO hc11 h
   refine aU (t := y9) rfl hc11 ?_
   obtain ⟨r12, hr12, h⟩ := aw h
   refine al ⟨tab [(2, vb (!r12))], ac [], 0⟩ ?_ ?_
   ·
    iterate 2 refine q1 _ ?_
    refine bx (r := .bool r12) (aI (aI aS.nil')) (nZ ⟨109, [], rfl, fun _ _ h => ui hself h⟩ hr12) ?_
    iterate 2 refine q1 _ ?_
    exact nR []
   have hh := ar h
   subst hh
   refine aN ?_
   show FQ _ _ _ _
   exact bn (.inr rfl) (be (v := vb (!r12)) rfl rfl) (RV.d trivial)
  ·
   replace h := aP hc11 h
   refine aT (t := y9) rfl hc11 ?_
   refine bd ?_
   refine al ⟨tab [(2, vb false)], ac [], 0⟩ ?_ ?_
   ·
    refine q1 _ ?_
    exact nR []
   have hh := ar h
   subst hh
   refine aN ?_
   show FQ _ _ _ _
   exact bn (.inr rfl) (be (v := vb false) rfl rfl) (RV.d trivial)
theorem n5 : ∀ (k : Nat) (a0 : am) (r : Bool), j8 k a0 = some r → PCall Try.prog 97 [bY a0] (.bool r)
 | 0, _, _, h => by cases h
 | k + 1, _, _, h => uj (n5 k) h
theorem uk {a0 : am} {r : Bool} (h : mS a0 = some r) : PCall Try.prog 97 [bY a0] (.bool r) := n5 dj _ _ h
theorem ul {self : am → Int → Option Bool} (hself : ∀ (b0 : am) (b1 : Int) (r : Bool), self b0 b1 = some r → PCall Try.prog 75 [bY b0, .int .i64 b1] (.bool r)) {a0 : am} {a1 : Int} {r : Bool} (h : mT self a0 a1 = some r) : PCall Try.prog 99 [bY a0, .cptr none (.int .i64 a1) 0] (.bool r) := by
 refine PCall.introN sd (show 2 ≤ 8 by decide) ?_
 refine aX (s0 := ⟨tab [(0, cg a0), (1, .d (.cptr none (.int .i64 a1) 0))], ac [], 0⟩) (nr []) ?_
 refine al ⟨tab [(1, .d (.cptr none (.int .i64 a1) 0)), (2, bf a0)], ac [], 0⟩ ?_ ?_
 ·
  iterate 2 refine q1 _ ?_
  exact nR []
 obtain ⟨r1, hr1, h⟩ := aw h
 refine al ⟨tab [(3, vb (!r1))], ac [], 0⟩ ?_ ?_
 ·
  iterate 2 refine q1 _ ?_
  refine bx (r := .bool r1) (aI (aI aS.nil')) (hself _ _ _ hr1) ?_
  iterate 2 refine q1 _ ?_
  exact nR []
 have hh := ar h
 subst hh
 refine aN ?_
 show FQ _ _ _ _
 exact bn (.inr rfl) (be (v := vb (!r1)) rfl rfl) (RV.d trivial)
theorem um {self : am → Int → Option Bool} (hself : ∀ (a0 : am) (a1 : Int) (r : Bool), self a0 a1 = some r → PCall Try.prog 75 [bY a0, .int .i64 a1] (.bool r)) {a0 : am} {a1 : Int} {r : Bool} (h : mU self a0 a1 = some r) : PCall Try.prog 75 [bY a0, .int .i64 a1] (.bool r) := by
 refine PCall.introN sf (show 2 ≤ 92 by decide) ?_
 refine aX (s0 := ⟨tab [(0, cg a0), (1, vi a1)], ac [], 0⟩) (nr []) ?_
 refine al ⟨tab [(2, bf a0), (3, .d (.cptr none (.int .i64 a1) 0))], ac [], 0⟩ ?_ ?_
 ·
  iterate 3 refine q1 _ ?_
  exact nR []
 refine al ⟨tab [(2, bf a0), (3, .d (.cptr none (.int .i64 a1) 0)), (5, vb ((a0.F == 0) && (a0.N == 0)))], ac [], 0⟩ ?_ ?_
 ·
  iterate 4 refine q1 _ ?_
  by_cases hg1 : (a0.F == 0) = true
  ·
   refine qG _ hg1 ?_
   refine q1 _ ?_
   refine qG _ hg1 ?_
   refine q1 _ ?_
   refine qG _ hg1 ?_
   refine q1 _ ?_
   refine step (v := vb (a0.N == 0)) (bD (b := (a0.F == 0)) rfl hg1 rfl) ?_
   refine q1 _ ?_
   exact bh.nil' (nm [] ⟨.d _, .d _, .eq (by first | (simp [hg1]; done) | (simp_all; done) | grind), trivial⟩ trivial)
  ·
   iterate 3 refine qX _ hg1 ?_
   refine step (v := vb false) (bu (b := (a0.F == 0)) rfl hg1 rfl) ?_
   refine q1 _ ?_
   exact bh.nil' (nm [] ⟨.d _, .d _, .eq (by first | (simp [hg1]; done) | (simp_all; done) | grind), trivial⟩ trivial)
 refine al ⟨tab [(2, bf a0), (3, .d (.cptr none (.int .i64 a1) 0)), (5, vb ((a0.F == 0) && (a0.N == 0))), (6, vi 0), (7, vi 8)], ac [], 0⟩ ?_ ?_
 ·
  iterate 2 refine q1 _ ?_
  exact nR []
 obtain ⟨q30, hv, h⟩ := aw h
 refine mt (fun (qq : (Int × Int)) => ⟨tab [(2, bf a0), (6, vi qq.1), (7, vi qq.2)], ac [], 0⟩) (xv := q30) (r := r) ?_ ?_ ?_
 ·
  replace h := hv
  refine al ⟨tab [(2, bf a0), (3, .d (.cptr none (.int .i64 a1) 0)), (5, vb ((a0.F == 0) && (a0.N == 0))), (6, vi 0), (7, vi 8), (17, vi a0.Op)], ac [], 0⟩ ?_ ?_
  ·
   iterate 2 refine q1 _ ?_
   exact nR []
  refine bz ?_
  obtain ⟨y3, hv, h⟩ := aw h
  refine eO ⟨tab [(2, bf a0), (3, .d (.cptr none (.int .i64 a1) 0)), (5, vb ((a0.F == 0) && (a0.N == 0))), (6, vi 0), (7, vi 8), (17, vi a0.Op), (18, vb y3)], ac [], 0⟩ ?_ ?_
  ·
   replace h := hv
   refine al ⟨tab [(2, bf a0), (3, .d (.cptr none (.int .i64 a1) 0)), (5, vb ((a0.F == 0) && (a0.N == 0))), (6, vi 0), (7, vi 8), (17, vi a0.Op), (18, vb (a0.Op == 0))], ac [], 0⟩ ?_ ?_
   ·
    iterate 2 refine q1 _ ?_
    exact nR []
   by_cases hc2 : (a0.Op == 0) = true
   ·
    replace h := aO hc2 h
    refine aU (t := (a0.Op == 0)) rfl hc2 ?_
    have hh := ar h
    subst hh
    refine aX (s0 := ⟨tab [(2, bf a0), (3, .d (.cptr none (.int .i64 a1) 0)), (5, vb ((a0.F == 0) && (a0.N == 0))), (6, vi 0), (7, vi 8), (17, vi a0.Op), (18, vb (a0.Op == 0))], ac [], 0⟩) (nr []) ?_
    refine bd ?_
    exact And.intro rfl rfl
   ·
    replace h := aP hc2 h
    refine aT (t := (a0.Op == 0)) rfl hc2 ?_
    have hh := ar h
    subst hh
    refine bT ⟨tab [(2, bf a0), (3, .d (.cptr none (.int .i64 a1) 0)), (5, vb ((a0.F == 0) && (a0.N == 0))), (6, vi 0), (7, vi 8), (17, vi a0.Op), (18, vb (a0.Op == 1))], ac [], 0⟩ ?_ ?_
    ·
     iterate 2 refine q1 _ ?_
     exact nR []
    exact And.intro rfl rfl
  by_cases hc5 : y3 = true
  ·
   replace h := aO hc5 h
   refine aU (t := y3) rfl hc5 ?_
   refine al ⟨tab [(4, vb (((a0.Kids.length : Int) == 0) && ((a0.F == 0) && (a0.N == 0))))], ac [], 0⟩ ?_ ?_
   ·
    iterate 2 refine q1 _ ?_
    refine step (v := vi (a0.Kids.length : Int)) (bG (xs := a0.Kids) (e := bQ) rfl) ?_
    iterate 2 refine q1 _ ?_
    by_cases hg6 : ((a0.Kids.length : Int) == 0) = true
    ·
     refine qG _ hg6 ?_
     refine q1 _ ?_
     refine step (v := vb ((a0.F == 0) && (a0.N == 0))) (bD (b := ((a0.Kids.length : Int) == 0)) rfl hg6 rfl) ?_
     refine q1 _ ?_
     exact bh.nil' (nm [] ⟨.eq (by first | (simp [hg6]; done) | (simp_all; done) | grind), trivial⟩ trivial)
    ·
     refine qX _ hg6 ?_
     refine step (v := vb false) (bu (b := ((a0.Kids.length : Int) == 0)) rfl hg6 rfl) ?_
     refine q1 _ ?_
     exact bh.nil' (nm [] ⟨.eq (by first | (simp [hg6]; done) | (simp_all; done) | grind), trivial⟩ trivial)
   obtain ⟨r7, kr7, hr⟩ := co (o := some (((a0.Kids.length : Int) == 0) && ((a0.F == 0) && (a0.N == 0)))) (g := Sum.inr) h
   subst hr
   have h := kr7
   have hh := ar h
   subst hh
   refine aN ?_
   refine And.intro (fun hn => nomatch hn) ?_
   intro hq
   have hq := hq.symm
   subst hq
   show FQ _ _ _ _
   exact bn (.inr rfl) (be (v := vb (((a0.Kids.length : Int) == 0) && ((a0.F == 0) && (a0.N == 0)))) rfl rfl) (RV.d trivial)
  ·
   replace h := aP hc5 h
   refine aT (t := y3) rfl hc5 ?_
   refine al ⟨tab [(2, bf a0), (3, .d (.cptr none (.int .i64 a1) 0)), (5, vb ((a0.F == 0) && (a0.N == 0))), (6, vi 0), (7, vi 8), (17, vi a0.Op), (28, vb (a0.Op == 4))], ac [], 0⟩ ?_ ?_
   ·
    iterate 2 refine q1 _ ?_
    exact nR []
   by_cases hc7 : (a0.Op == 4) = true
   ·
    replace h := aO hc7 h
    refine aU (t := (a0.Op == 4)) rfl hc7 ?_
    obtain ⟨y14, hv, h⟩ := aw h
    refine al ⟨tab [(4, vb y14)], ac [], 0⟩ ?_ ?_
    ·
     iterate 2 refine q1 _ ?_
     refine step (v := vi (a0.Kids.length : Int)) (bG (xs := a0.Kids) (e := bQ) rfl) ?_
     iterate 2 refine q1 _ ?_
     by_cases hg8 : ((a0.Kids.length : Int) == 1) = true
     ·
      replace hv := aO hg8 hv
      refine qG _ hg8 ?_
      refine q1 _ ?_
      refine step (v := vb ((a0.F == 0) && (a0.N == 0))) (bD (b := ((a0.Kids.length : Int) == 1)) rfl hg8 rfl) ?_
      refine q1 _ ?_
      by_cases hg9 : ((a0.F == 0) && (a0.N == 0)) = true
      ·
       replace hv := aO hg9 hv
       obtain ⟨x10, hx10, hv⟩ := aw hv
       obtain ⟨r11, hr11, hv⟩ := aw hv
       refine qG _ hg9 ?_
       refine q1 _ ?_
       refine qG _ hg9 ?_
       refine q1 _ ?_
       refine qG _ hg9 ?_
       refine step (v := bf x10) (fp (xs := a0.Kids) (e := bQ) hx10 rfl rfl (eG _)) ?_
       refine qG _ hg9 ?_
       refine q1 _ ?_
       refine qG _ hg9 ?_
       refine bx (r := .bool r11) (aI aS.nil') (uk hr11) ?_
       refine step (v := vb r11) (bD (b := ((a0.F == 0) && (a0.N == 0))) rfl hg9 rfl) ?_
       refine q1 _ ?_
       by_cases hg12 : r11 = true
       ·
        replace hv := aO hg12 hv
        obtain ⟨r13, hr13, hv⟩ := aw hv
        refine qG _ hg12 ?_
        refine q1 _ ?_
        refine qG _ hg12 ?_
        refine q1 _ ?_
        refine qG _ hg12 ?_
        refine step (v := bf x10) (fp (xs := a0.Kids) (e := bQ) hx10 rfl rfl (eG _)) ?_
        refine qG _ hg12 ?_
        refine q1 _ ?_
        refine qG _ hg12 ?_
        refine q1 _ ?_
        refine qG _ hg12 ?_
        refine bx (r := .bool r13) (aI (aI aS.nil')) (hself _ _ _ hr13) ?_
        refine step (v := vb r13) (bD (b := r11) rfl hg12 rfl) ?_
        refine q1 _ ?_
        have hh := ar hv
        subst hh
        exact nR []
       ·
        replace hv := aP hg12 hv
        iterate 6 refine qX _ hg12 ?_
        refine step (v := vb false) (bu (b := r11) rfl hg12 rfl) ?_
        refine q1 _ ?_
        have hh := ar hv
        subst hh
        exact nR []
      ·
       replace hv := aP hg9 hv
       iterate 5 refine qX _ hg9 ?_
       refine step (v := vb false) (bu (b := ((a0.F == 0) && (a0.N == 0))) rfl hg9 rfl) ?_
       refine q1 _ ?_
       iterate 6 refine qX false (by decide) ?_
       refine step (v := vb false) (bu (b := false) rfl (by decide) rfl) ?_
       refine q1 _ ?_
       have hh := ar hv
       subst hh
       exact nR []
     ·
      replace hv := aP hg8 hv
      refine qX _ hg8 ?_
      refine step (v := vb false) (bu (b := ((a0.Kids.length : Int) == 1)) rfl hg8 rfl) ?_
      refine q1 _ ?_
      iterate 5 refine qX false (by decide) ?_
      refine step (v := vb false) (bu (b := false) rfl (by decide) rfl) ?_
      refine q1 _ ?_
      iterate 6 refine qX false (by decide) ?_
      refine step (v := vb false) (bu (b := false) rfl (by decide) rfl) ?_
      refine q1 _ ?_
      have hh := ar hv
      subst hh
      exact nR []
    obtain ⟨r16, kr16, hr⟩ := co (o := some y14) (g := Sum.inr) h
    subst hr
    have h := kr16
    have hh := ar h
    subst hh
    refine aN ?_
    refine And.intro (fun hn => nomatch hn) ?_
    intro hq
    have hq := hq.symm
    subst hq
    show FQ _ _ _ _
    exact bn (.inr rfl) (be (v := vb y14) rfl rfl) (RV.d trivial)
   ·
    replace h := aP hc7 h
    refine aT (t := (a0.Op == 4)) rfl hc7 ?_
    obtain ⟨y17, hv, h⟩ := aw h
    refine eO ⟨tab [(2, bf a0), (3, .d (.cptr none (.int .i64 a1) 0)), (5, vb ((a0.F == 0) && (a0.N == 0))), (6, vi 0), (7, vi 8), (17, vi a0.Op), (52, vb y17)], ac [], 0⟩ ?_ ?_
    ·
     replace h := hv
     refine al ⟨tab [(2, bf a0), (3, .d (.cptr none (.int .i64 a1) 0)), (5, vb ((a0.F == 0) && (a0.N == 0))), (6, vi 0), (7, vi 8), (17, vi a0.Op), (52, vb (a0.Op == 6))], ac [], 0⟩ ?_ ?_
     ·
      iterate 2 refine q1 _ ?_
      exact nR []
     by_cases hc16 : (a0.Op == 6) = true
     ·
      replace h := aO hc16 h
      refine aU (t := (a0.Op == 6)) rfl hc16 ?_
      have hh := ar h
      subst hh
      refine aX (s0 := ⟨tab [(2, bf a0), (3, .d (.cptr none (.int .i64 a1) 0)), (5, vb ((a0.F == 0) && (a0.N == 0))), (6, vi 0), (7, vi 8), (17, vi a0.Op), (52, vb (a0.Op == 6))], ac [], 0⟩) (nr []) ?_
      refine bd ?_
      exact And.intro rfl rfl
     ·
      replace h := aP hc16 h
      refine aT (t := (a0.Op == 6)) rfl hc16 ?_
      have hh := ar h
      subst hh
      refine bT ⟨tab [(2, bf a0), (3, .d (.cptr none (.int .i64 a1) 0)), (5, vb ((a0.F == 0) && (a0.N == 0))), (6, vi 0), (7, vi 8), (17, vi a0.Op), (52, vb (a0.Op == 7))], ac [], 0⟩ ?_ ?_
      ·
       iterate 2 refine q1 _ ?_
       exact nR []
      exact And.intro rfl rfl
    by_cases hc19 : y17 = true
    ·
     replace h := aO hc19 h
     refine aU (t := y17) rfl hc19 ?_
     obtain ⟨y23, hv, h⟩ := aw h
     refine al ⟨tab [(4, vb y23)], ac [], 0⟩ ?_ ?_
     ·
      iterate 2 refine q1 _ ?_
      refine step (v := vi (a0.Kids.length : Int)) (bG (xs := a0.Kids) (e := bQ) rfl) ?_
      iterate 2 refine q1 _ ?_
      by_cases hg20 : decide ((a0.Kids.length : Int) ≥ 2) = true
      ·
       replace hv := aO hg20 hv
       refine qG _ hg20 ?_
       refine q1 _ ?_
       refine step (v := vb ((a0.F == 0) && (a0.N == 0))) (bD (b := decide ((a0.Kids.length : Int) ≥ 2)) rfl hg20 rfl) ?_
       refine q1 _ ?_
       by_cases hg21 : ((a0.F == 0) && (a0.N == 0)) = true
       ·
        replace hv := aO hg21 hv
        obtain ⟨r22, hr22, hv⟩ := aw hv
        refine qG _ hg21 ?_
        refine q1 _ ?_
        refine qG _ hg21 ?_
        refine q1 _ ?_
        refine qG _ hg21 ?_
        refine q1 _ ?_
        refine qG _ hg21 ?_
        refine bx (r := .bool r22) (aI (aI aS.nil')) (nZ ⟨99, [.cptr none (.int .i64 a1) 0], rfl, fun _ _ h => ul hself h⟩ hr22) ?_
        refine qG _ hg21 ?_
        refine q1 _ ?_
        refine step (v := vb (!r22)) (bD (b := ((a0.F == 0) && (a0.N == 0))) rfl hg21 rfl) ?_
        refine q1 _ ?_
        have hh := ar hv
        subst hh
        exact nR []
       ·
        replace hv := aP hg21 hv
        iterate 5 refine qX _ hg21 ?_
        refine step (v := vb false) (bu (b := ((a0.F == 0) && (a0.N == 0))) rfl hg21 rfl) ?_
        refine q1 _ ?_
        have hh := ar hv
        subst hh
        exact nR []
      ·
       replace hv := aP hg20 hv
       refine qX _ hg20 ?_
       refine step (v := vb false) (bu (b := decide ((a0.Kids.length : Int) ≥ 2)) rfl hg20 rfl) ?_
       refine q1 _ ?_
       iterate 5 refine qX false (by decide) ?_
       refine step (v := vb false) (bu (b := false) rfl (by decide) rfl) ?_
       refine q1 _ ?_
       have hh := ar hv
       subst hh
       exact nR []
     obtain ⟨r25, kr25, hr⟩ := co (o := some y23) (g := Sum.inr) h
     subst hr
     have h := kr25
     have hh := ar h
     subst hh
     refine aN ?_
     refine And.intro (fun hn => nomatch hn) ?_
     intro hq
     have hq := hq.symm
     subst hq
     show FQ _ _ _ _
     exact bn (.inr rfl) (be (v := vb y23) rfl rfl) (RV.d trivial)
    ·
     replace h := aP hc19 h
     refine aT (t := y17) rfl hc19 ?_
     refine al ⟨tab [(2, bf a0), (3, .d (.cptr none (.int .i64 a1) 0)), (6, vi 0), (7, vi 8), (17, vi a0.Op), (69, vb (a0.Op == 2))], ac [], 0⟩ ?_ ?_
     ·
      iterate 2 refine q1 _ ?_
      exact nR []
     by_cases hc25 : (a0.Op == 2) = true
     ·
      replace h := aO hc25 h
      refine aU (t := (a0.Op == 2)) rfl hc25 ?_
      have hh := ar h
      subst hh
      refine aX (s0 := ⟨tab [(2, bf a0), (6, vi 0), (7, vi 8)], ac [], 0⟩) (nr []) ?_
      refine bd ?_
      exact And.intro rfl rfl
     ·
      replace h := aP hc25 h
      refine aT (t := (a0.Op == 2)) rfl hc25 ?_
      refine al ⟨tab [(2, bf a0), (3, .d (.cptr none (.int .i64 a1) 0)), (6, vi 0), (7, vi 8), (17, vi a0.Op), (71, vb (a0.Op == 5))], ac [], 0⟩ ?_ ?_
      ·
       iterate 2 refine q1 _ ?_
       exact nR []
      by_cases hc26 : (a0.Op == 5) = true
      ·
       replace h := aO hc26 h
       refine aU (t := (a0.Op == 5)) rfl hc26 ?_
       have hh := ar h
       subst hh
       refine bT ⟨tab [(2, bf a0), (6, vi 1), (7, vi 8)], ac [], 0⟩ ?_ ?_
       ·
        refine q1 _ ?_
        exact nR []
       exact And.intro rfl rfl
      ·
       replace h := aP hc26 h
       refine aT (t := (a0.Op == 5)) rfl hc26 ?_
       refine al ⟨tab [(2, bf a0), (3, .d (.cptr none (.int .i64 a1) 0)), (6, vi 0), (73, vb (a0.Op == 3))], ac [], 0⟩ ?_ ?_
       ·
        iterate 2 refine q1 _ ?_
        exact nR []
       by_cases hc27 : (a0.Op == 3) = true
       ·
        replace h := aO hc27 h
        refine aU (t := (a0.Op == 3)) rfl hc27 ?_
        have hh := ar h
        subst hh
        refine bT ⟨tab [(2, bf a0), (6, vi 0), (7, vi a1)], ac [], 0⟩ ?_ ?_
        ·
         iterate 2 refine q1 _ ?_
         exact nR []
        exact And.intro rfl rfl
       ·
        replace h := aP hc27 h
        refine aT (t := (a0.Op == 3)) rfl hc27 ?_
        refine al ⟨tab [(4, vb false)], ac [], 0⟩ ?_ ?_
        ·
         refine q1 _ ?_
         exact nR []
        obtain ⟨r28, kr28, hr⟩ := co (o := some false) (g := Sum.inr) h
        subst hr
        have h := kr28
        have hh := ar h
        subst hh
        refine aN ?_
        refine And.intro (fun hn => nomatch hn) ?_
        intro hq
        have hq := hq.symm
        subst hq
        show FQ _ _ _ _
        exact bn (.inr rfl) (be (v := vb false) rfl rfl) (RV.d trivial)
 ·
  intro r' hq
  subst hq
  exact ar h
 rintro ⟨y28, y29⟩ rfl
 show aK _ _ _ _ _ ⟨tab [(2, bf a0), (6, vi y28), (7, vi y29)], ac [], 0⟩
 refine al ⟨tab [(4, vb (((a0.Kids.length : Int) == 0) && ((decide (a0.F ≥ y28)) && (decide (a0.F < y29)))))], ac [], 0⟩ ?_ ?_
 ·
  iterate 2 refine q1 _ ?_
  refine step (v := vi (a0.Kids.length : Int)) (bG (xs := a0.Kids) (e := bQ) rfl) ?_
  iterate 2 refine q1 _ ?_
  by_cases hg31 : ((a0.Kids.length : Int) == 0) = true
  ·
   refine qG _ hg31 ?_
   refine q1 _ ?_
   refine qG _ hg31 ?_
   refine q1 _ ?_
   refine qG _ hg31 ?_
   refine q1 _ ?_
   refine qG _ hg31 ?_
   refine q1 _ ?_
   refine step (v := vb (decide (a0.F ≥ y28))) (bD (b := ((a0.Kids.length : Int) == 0)) rfl hg31 rfl) ?_
   refine q1 _ ?_
   by_cases hg32 : decide (a0.F ≥ y28) = true
   ·
    refine qG _ hg32 ?_
    refine q1 _ ?_
    refine qG _ hg32 ?_
    refine q1 _ ?_
    refine qG _ hg32 ?_
    refine q1 _ ?_
    refine qG _ hg32 ?_
    refine q1 _ ?_
    refine step (v := vb (decide (a0.F < y29))) (bD (b := decide (a0.F ≥ y28)) rfl hg32 rfl) ?_
    refine q1 _ ?_
    exact bh.nil' (nm [] ⟨.eq (by first | (simp [hg31, hg32]; done) | (simp_all; done) | grind), trivial⟩ trivial)
   ·
    iterate 4 refine qX _ hg32 ?_
    refine step (v := vb false) (bu (b := decide (a0.F ≥ y28)) rfl hg32 rfl) ?_
    refine q1 _ ?_
    exact bh.nil' (nm [] ⟨.eq (by first | (simp [hg31, hg32]; done) | (simp_all; done) | grind), trivial⟩ trivial)
  ·
   iterate 4 refine qX _ hg31 ?_
   refine step (v := vb false) (bu (b := ((a0.Kids.length : Int) == 0)) rfl hg31 rfl) ?_
   refine q1 _ ?_
   iterate 4 refine qX false (by decide) ?_
   refine step (v := vb false) (bu (b := false) rfl (by decide) rfl) ?_
   refine q1 _ ?_
   exact bh.nil' (nm [] ⟨.eq (by first | (simp [hg31]; done) | (simp_all; done) | grind), trivial⟩ trivial)
 have hh := ar h
 subst hh
 refine aN ?_
 show FQ _ _ _ _
 exact bn (.inr rfl) (be (v := vb (((a0.Kids.length : Int) == 0) && ((decide (a0.F ≥ y28)) && (decide (a0.F < y29))))) rfl rfl) (RV.d trivial)
theorem n6 : ∀ (k : Nat) (a0 : am) (a1 : Int) (r : Bool), j9 k a0 a1 = some r → PCall Try.prog 75 [bY a0, .int .i64 a1] (.bool r)
 | 0, _, _, _, h => by cases h
 | k + 1, _, _, _, h => um (n6 k) h
theorem uo {a0 : am} {a1 : Int} {r : Bool} (h : mV a0 a1 = some r) : PCall Try.prog 75 [bY a0, .int .i64 a1] (.bool r) := n6 dj _ _ _ h
theorem kF {a0 : (List ff)} {a1 : Int} {r : Bool} (h : iF a0 a1 = some r) : PCall Try.prog 76 [eL (some 2) dk a0, .int .i64 a1] (.bool r) := by
 refine PCall.introN si (show 2 ≤ 39 by decide) ?_
 refine aX (s0 := ⟨tab [(0, b6 a0), (1, vi a1)], ac [], 0⟩) (nr []) ?_
 refine al ⟨tab [(0, b6 a0), (1, vi a1)], ac [], 0⟩ ?_ ?_
 ·
  refine q1 _ ?_
  exact nR []
 refine aF ?_
 refine al ⟨tab [(0, b6 a0), (1, vi a1), (7, b6 a0), (8, vi (a0.length : Int)), (9, vi 0)], ac [], 0⟩ ?_ ?_
 ·
  refine q1 _ ?_
  refine step (v := vi (a0.length : Int)) (bG (xs := a0) (e := dk) rfl) ?_
  refine q1 _ ?_
  exact nR []
 obtain ⟨q15, hl, h⟩ := aw h
 refine bz ?_
 refine df (cA (a0.length : Int)) (fun (i1 : Int) (qq : Unit) => ⟨tab [(0, b6 a0), (1, vi a1), (7, b6 a0), (8, vi (a0.length : Int)), (9, vi i1)], ac [], 0⟩) 0 (fun (qq : Unit) => ⟨tab [], ac [], 0⟩) bF cB (r := r) hl (by unfold bF; omega) ?_ ?_ ?_ ?_
 ·
  rintro i1 ⟨⟩ xr6 hinv4 hgo3 h
  show aK _ _ _ _ _ ⟨tab [(0, b6 a0), (1, vi a1), (7, b6 a0), (8, vi (a0.length : Int)), (9, vi i1)], ac [], 0⟩
  have hc5 : decide (i1 < (a0.length : Int)) = true := decide_eq_true hgo3
  refine al ⟨tab [(0, b6 a0), (1, vi a1), (7, b6 a0), (8, vi (a0.length : Int)), (9, vi i1), (10, vb (decide (i1 < (a0.length : Int))))], ac [], 0⟩ ?_ ?_
  ·
   refine q1 _ ?_
   exact nR []
  refine cz 8 rfl fun hB2 => ?_
  refine aF ?_
  refine aU (t := decide (i1 < (a0.length : Int))) rfl hc5 ?_
  refine bd ?_
  refine aF ?_
  refine bz ?_
  obtain ⟨x7, hx7, h⟩ := aw h
  refine al ⟨tab [(0, b6 a0), (1, vi a1), (5, vi i1), (6, .ptr 0 0 0), (7, b6 a0), (8, vi (a0.length : Int)), (9, vi i1)], ac [(0, .var [vi x7.F, vh x7.N])], 1⟩ ?_ ?_
  ·
   refine q1 _ ?_
   refine step (v := .d (.cptr (some 2) (dk x7) 0)) (b4 (xs := a0) (e := dk) hx7 rfl rfl) ?_
   refine q1 _ ?_
   refine step (v := .ptr 0 0 0) (σ' := (ak (ac []) 0 (some (.var [vi 0, vh 0])))) (n' := 1) rfl ?_
   refine q1 _ ?_
   refine step (v := V.undef) (σ' := (ak (ak (ac []) 0 (some (.var [vi 0, vh 0]))) 0 (some (.var [vi x7.F, vh x7.N])))) (n' := 1) rfl ?_
   exact nR [0]
  obtain ⟨y12, hv, h⟩ := aw h
  refine al ⟨tab [(0, b6 a0), (1, vi a1), (7, b6 a0), (8, vi (a0.length : Int)), (9, vi i1), (37, vb y12)], ac [], 0⟩ ?_ ?_
  ·
   iterate 4 refine q1 _ ?_
   by_cases hg8 : decide (x7.F < 0) = true
   ·
    replace hv := aO hg8 hv
    iterate 4 refine qX (decide (x7.F < 0)) (by rw [hg8]; decide) ?_
    refine step (v := vb true) (bD (b := decide (x7.F < 0)) rfl hg8 rfl) ?_
    refine q1 _ ?_
    iterate 3 refine qX true (by decide) ?_
    refine cZ rfl ?_
    refine cZ rfl ?_
    refine cZ rfl ?_
    refine cZ rfl ?_
    refine cZ rfl ?_
    refine cZ rfl ?_
    refine cZ rfl ?_
    refine cZ rfl ?_
    refine cZ rfl ?_
    refine qX true (by decide) ?_
    refine step (v := vb true) (bD (b := true) rfl rfl rfl) ?_
    have hh := ar hv
    subst hh
    exact nR []
   ·
    replace hv := aP hg8 hv
    refine qG (decide (x7.F < 0)) (Bool.eq_false_iff.2 hg8) ?_
    refine q1 _ ?_
    refine qG (decide (x7.F < 0)) (Bool.eq_false_iff.2 hg8) ?_
    refine q1 _ ?_
    refine qG (decide (x7.F < 0)) (Bool.eq_false_iff.2 hg8) ?_
    refine q1 _ ?_
    refine qG (decide (x7.F < 0)) (Bool.eq_false_iff.2 hg8) ?_
    refine q1 _ ?_
    refine step (v := vb (decide (x7.F ≥ a1))) (bu (b := decide (x7.F < 0)) rfl hg8 rfl) ?_
    refine q1 _ ?_
    by_cases hg9 : decide (x7.F ≥ a1) = true
    ·
     replace hv := aO hg9 hv
     iterate 3 refine qX (decide (x7.F ≥ a1)) (by rw [hg9]; decide) ?_
     refine cZ rfl ?_
     refine cZ rfl ?_
     refine cZ rfl ?_
     refine cZ rfl ?_
     refine cZ rfl ?_
     refine cZ rfl ?_
     refine cZ rfl ?_
     refine cZ rfl ?_
     refine cZ rfl ?_
     refine qX (decide (x7.F ≥ a1)) (by rw [hg9]; decide) ?_
     refine step (v := vb true) (bD (b := decide (x7.F ≥ a1)) rfl hg9 rfl) ?_
     have hh := ar hv
     subst hh
     exact nR []
    ·
     replace hv := aP hg9 hv
     refine qG (decide (x7.F ≥ a1)) (Bool.eq_false_iff.2 hg9) ?_
     refine q1 _ ?_
     refine qG (decide (x7.F ≥ a1)) (Bool.eq_false_iff.2 hg9) ?_
     refine q1 _ ?_
     refine qG (decide (x7.F ≥ a1)) (Bool.eq_false_iff.2 hg9) ?_
     refine q1 _ ?_
     by_cases hg10 : decide (i1 > 0) = true
     ·
      replace hv := aO hg10 hv
      obtain ⟨x11, hx11, hv⟩ := aw hv
      refine qG _ hg10 ?_
      refine q1 _ ?_
      refine qG _ hg10 ?_
      refine q1 _ ?_
      refine qG _ hg10 ?_
      refine q1 _ ?_
      refine qG _ hg10 ?_
      refine step (v := .d (.cptr (some 2) (dk x11) 0)) (b4 (xs := a0) (e := dk) hx11 rfl rfl) ?_
      refine qG _ hg10 ?_
      refine q1 _ ?_
      refine qG _ hg10 ?_
      refine q1 _ ?_
      refine qG _ hg10 ?_
      refine q1 _ ?_
      refine qG _ hg10 ?_
      refine q1 _ ?_
      refine qG _ hg10 ?_
      refine q1 _ ?_
      refine qG (decide (x7.F ≥ a1)) (Bool.eq_false_iff.2 hg9) ?_
      refine step (v := vb (decide (x11.F ≥ x7.F))) (bD (b := decide (i1 > 0)) rfl hg10 rfl) ?_
      refine step (v := vb (decide (x11.F ≥ x7.F))) (bu (b := decide (x7.F ≥ a1)) rfl hg9 rfl) ?_
      have hh := ar hv
      subst hh
      exact nR []
     ·
      replace hv := aP hg10 hv
      iterate 9 refine qX _ hg10 ?_
      refine qG (decide (x7.F ≥ a1)) (Bool.eq_false_iff.2 hg9) ?_
      refine step (v := vb false) (bu (b := decide (i1 > 0)) rfl hg10 rfl) ?_
      refine step (v := vb false) (bu (b := decide (x7.F ≥ a1)) rfl hg9 rfl) ?_
      have hh := ar hv
      subst hh
      exact nR []
  by_cases hc14 : y12 = true
  ·
   replace h := aO hc14 h
   refine aU (t := y12) rfl hc14 ?_
   refine al ⟨tab [(4, vb false)], ac [], 0⟩ ?_ ?_
   ·
    refine q1 _ ?_
    exact nR []
   obtain ⟨r15, kr15, hr⟩ := co (o := some false) (g := Br.ret) h
   subst hr
   have h := kr15
   have hh := ar h
   subst hh
   refine aN ?_
   refine And.intro (fun hn => nomatch hn) ?_
   intro hq
   have hq := hq.symm
   subst hq
   show FQ _ _ _ _
   exact bn (.inr rfl) (be (v := vb false) rfl rfl) (RV.d trivial)
  ·
   replace h := aP hc14 h
   refine aT (t := y12) rfl hc14 ?_
   refine bd ?_
   have hh := ar h
   subst hh
   refine bT ⟨tab [(0, b6 a0), (1, vi a1), (7, b6 a0), (8, vi (a0.length : Int)), (9, vi (i1 + 1))], ac [], 0⟩ ?_ ?_
   ·
    refine step (v := vi (i1 + 1)) (cC (cD hinv4 hgo3 hB2) rfl rfl) ?_
    refine q1 _ ?_
    exact nR []
   exact And.intro rfl rfl
 ·
  rintro i1 ⟨⟩ hinv4 hgo3
  show aK _ _ _ _ _ ⟨tab [(0, b6 a0), (1, vi a1), (7, b6 a0), (8, vi (a0.length : Int)), (9, vi i1)], ac [], 0⟩
  have hc5 : ¬ (decide (i1 < (a0.length : Int)) = true) := fun hq => hgo3 (of_decide_eq_true hq)
  refine al ⟨tab [(0, b6 a0), (1, vi a1), (7, b6 a0), (8, vi (a0.length : Int)), (9, vi i1), (10, vb (decide (i1 < (a0.length : Int))))], ac [], 0⟩ ?_ ?_
  ·
   refine q1 _ ?_
   exact nR []
  refine aF ?_
  refine aT (t := decide (i1 < (a0.length : Int))) rfl hc5 ?_
  refine aX (s0 := ⟨tab [], ac [], 0⟩) (nr []) ?_
  refine cn ?_
  exact And.intro rfl rfl
 ·
  intro r' hq
  subst hq
  exact ar h
 rintro ⟨⟩ rfl
 refine al ⟨tab [(4, vb true)], ac [], 0⟩ ?_ ?_
 ·
  refine q1 _ ?_
  exact nR []
 have hh := ar h
 subst hh
 refine aN ?_
 show FQ _ _ _ _
 exact bn (.inr rfl) (be (v := vb true) rfl rfl) (RV.d trivial)
theorem ur {a0 : gY} {r : Int} (h : mW a0 = some r) : PCall Try.prog 48 [gv a0] (.int .i64 r) := by
 refine PCall.introN sl (show 1 ≤ 95 by decide) ?_
 refine aX (s0 := ⟨tab [(0, .d (gv a0))], ac [], 0⟩) (nr []) ?_
 refine al ⟨tab [(1, .d (.cptr (some 6) (gv a0) 0))], ac [], 0⟩ ?_ ?_
 ·
  iterate 2 refine q1 _ ?_
  exact nR []
 refine al ⟨tab [(1, .d (.cptr (some 6) (gv a0) 0)), (3, vi (a0.Init.length : Int))], ac [], 0⟩ ?_ ?_
 ·
  iterate 2 refine q1 _ ?_
  refine step (v := vi (a0.Init.length : Int)) (bG (xs := a0.Init) (e := (D.int .u16)) rfl) ?_
  refine q1 _ ?_
  exact nR []
 refine aF ?_
 obtain ⟨y7, hv, h⟩ := aw h
 refine al ⟨tab [(1, .d (.cptr (some 6) (gv a0) 0)), (3, vi (a0.Init.length : Int)), (33, vb y7)], ac [], 0⟩ ?_ ?_
 ·
  iterate 3 refine q1 _ ?_
  by_cases hg1 : decide ((a0.Init.length : Int) < 1) = true
  ·
   replace hv := aO hg1 hv
   iterate 2 refine qX (decide ((a0.Init.length : Int) < 1)) (by rw [hg1]; decide) ?_
   refine step (v := vb true) (bD (b := decide ((a0.Init.length : Int) < 1)) rfl hg1 rfl) ?_
   refine q1 _ ?_
   iterate 4 refine qX true (by decide) ?_
   refine step (v := vb true) (bD (b := true) rfl rfl rfl) ?_
   refine q1 _ ?_
   iterate 4 refine qX true (by decide) ?_
   refine step (v := vb true) (bD (b := true) rfl rfl rfl) ?_
   refine q1 _ ?_
   iterate 4 refine qX true (by decide) ?_
   refine step (v := vb true) (bD (b := true) rfl rfl rfl) ?_
   have hh := ar hv
   subst hh
   exact nR []
  ·
   replace hv := aP hg1 hv
   refine qG (decide ((a0.Init.length : Int) < 1)) (Bool.eq_false_iff.2 hg1) ?_
   refine q1 _ ?_
   refine qG (decide ((a0.Init.length : Int) < 1)) (Bool.eq_false_iff.2 hg1) ?_
   refine q1 _ ?_
   refine step (v := vb (decide ((a0.Init.length : Int) > 4))) (bu (b := decide ((a0.Init.length : Int) < 1)) rfl hg1 rfl) ?_
   refine q1 _ ?_
   by_cases hg2 : decide ((a0.Init.length : Int) > 4) = true
   ·
    replace hv := aO hg2 hv
    iterate 4 refine qX (decide ((a0.Init.length : Int) > 4)) (by rw [hg2]; decide) ?_
    refine step (v := vb true) (bD (b := decide ((a0.Init.length : Int) > 4)) rfl hg2 rfl) ?_
    refine q1 _ ?_
    iterate 4 refine qX true (by decide) ?_
    refine step (v := vb true) (bD (b := true) rfl rfl rfl) ?_
    refine q1 _ ?_
    iterate 4 refine qX true (by decide) ?_
    refine step (v := vb true) (bD (b := true) rfl rfl rfl) ?_
    have hh := ar hv
    subst hh
    exact nR []
   ·
    replace hv := aP hg2 hv
    obtain ⟨r3, hr3, hv⟩ := aw hv
    refine qG (decide ((a0.Init.length : Int) > 4)) (Bool.eq_false_iff.2 hg2) ?_
    refine q1 _ ?_
    refine qG (decide ((a0.Init.length : Int) > 4)) (Bool.eq_false_iff.2 hg2) ?_
    refine q1 _ ?_
    refine qG (decide ((a0.Init.length : Int) > 4)) (Bool.eq_false_iff.2 hg2) ?_
    refine bx (r := .int .i64 r3) (aI aS.nil') (ue hr3) ?_
    refine qG (decide ((a0.Init.length : Int) > 4)) (Bool.eq_false_iff.2 hg2) ?_
    refine q1 _ ?_
    refine step (v := vb (decide (r3 > 300))) (bu (b := decide ((a0.Init.length : Int) > 4)) rfl hg2 rfl) ?_
    refine q1 _ ?_
    by_cases hg4 : decide (r3 > 300) = true
    ·
     replace hv := aO hg4 hv
     iterate 4 refine qX (decide (r3 > 300)) (by rw [hg4]; decide) ?_
     refine step (v := vb true) (bD (b := decide (r3 > 300)) rfl hg4 rfl) ?_
     refine q1 _ ?_
     iterate 4 refine qX true (by decide) ?_
     refine step (v := vb true) (bD (b := true) rfl rfl rfl) ?_
     have hh := ar hv
     subst hh
     exact nR []
    ·
     replace hv := aP hg4 hv
     obtain ⟨r5, hr5, hv⟩ := aw hv
     refine qG (decide (r3 > 300)) (Bool.eq_false_iff.2 hg4) ?_
     refine q1 _ ?_
     refine qG (decide (r3 > 300)) (Bool.eq_false_iff.2 hg4) ?_
     refine q1 _ ?_
     refine qG (decide (r3 > 300)) (Bool.eq_false_iff.2 hg4) ?_
     refine bx (r := .int .i64 r5) (aI aS.nil') (ug hr5) ?_
     refine qG (decide (r3 > 300)) (Bool.eq_false_iff.2 hg4) ?_
     refine q1 _ ?_
     refine step (v := vb (decide (r5 > 20))) (bu (b := decide (r3 > 300)) rfl hg4 rfl) ?_
     refine q1 _ ?_
     by_cases hg6 : decide (r5 > 20) = true
     ·
      replace hv := aO hg6 hv
      iterate 4 refine qX (decide (r5 > 20)) (by rw [hg6]; decide) ?_
      refine step (v := vb true) (bD (b := decide (r5 > 20)) rfl hg6 rfl) ?_
      have hh := ar hv
      subst hh
      exact nR []
     ·
      replace hv := aP hg6 hv
      refine qG (decide (r5 > 20)) (Bool.eq_false_iff.2 hg6) ?_
      refine q1 _ ?_
      refine qG (decide (r5 > 20)) (Bool.eq_false_iff.2 hg6) ?_
      refine q1 _ ?_
      refine qG (decide (r5 > 20)) (Bool.eq_false_iff.2 hg6) ?_
      refine step (v := vi (a0.Rules.length : Int)) (bG (xs := a0.Rules) (e := gu) rfl) ?_
      refine qG (decide (r5 > 20)) (Bool.eq_false_iff.2 hg6) ?_
      refine q1 _ ?_
      refine step (v := vb (decide ((a0.Rules.length : Int) > 24))) (bu (b := decide (r5 > 20)) rfl hg6 rfl) ?_
      have hh := ar hv
      subst hh
      exact nR []
 by_cases hc9 : y7 = true
 ·
  replace h := aO hc9 h
  refine aU (t := y7) rfl hc9 ?_
  refine al ⟨tab [(2, vi 2)], ac [], 0⟩ ?_ ?_
  ·
   refine q1 _ ?_
   exact nR []
  have hh := ar h
  subst hh
  refine aN ?_
  show FQ _ _ _ _
  exact bn (.inr rfl) (be (v := vi 2) rfl rfl) (RV.d trivial)
 ·
  replace h := aP hc9 h
  refine aT (t := y7) rfl hc9 ?_
  refine bd ?_
  refine aF ?_
  obtain ⟨r10, hr10, h⟩ := aw h
  refine al ⟨tab [(1, .d (.cptr (some 6) (gv a0) 0)), (3, vi (a0.Init.length : Int)), (38, vb (!r10))], ac [], 0⟩ ?_ ?_
  ·
   iterate 3 refine q1 _ ?_
   refine bx (r := .bool r10) (aI (aI aS.nil')) (uo hr10) ?_
   refine q1 _ ?_
   exact nR []
  by_cases hc11 : (!r10) = true
  ·
   replace h := aO hc11 h
   refine aU (t := (!r10)) rfl hc11 ?_
   refine al ⟨tab [(2, vi 11)], ac [], 0⟩ ?_ ?_
   ·
    refine q1 _ ?_
    exact nR []
   have hh := ar h
   subst hh
   refine aN ?_
   show FQ _ _ _ _
   exact bn (.inr rfl) (be (v := vi 11) rfl rfl) (RV.d trivial)
  ·
   replace h := aP hc11 h
   refine aT (t := (!r10)) rfl hc11 ?_
   refine bd ?_
   refine aF ?_
   refine al ⟨tab [(3, vi (a0.Init.length : Int)), (40, eU a0.Rules), (41, vi (a0.Rules.length : Int)), (42, vi 0)], ac [], 0⟩ ?_ ?_
   ·
    iterate 2 refine q1 _ ?_
    refine step (v := vi (a0.Rules.length : Int)) (bG (xs := a0.Rules) (e := gu) rfl) ?_
    refine q1 _ ?_
    exact nR []
   obtain ⟨q35, hl, h⟩ := aw h
   refine bz ?_
   refine df (cA (a0.Rules.length : Int)) (fun (i12 : Int) (qq : Unit) => ⟨tab [(3, vi (a0.Init.length : Int)), (40, eU a0.Rules), (41, vi (a0.Rules.length : Int)), (42, vi i12)], ac [], 0⟩) 0 (fun (qq : Unit) => ⟨tab [], ac [], 0⟩) bF cB (r := r) hl (by unfold bF; omega) ?_ ?_ ?_ ?_
   ·
    rintro i12 ⟨⟩ xr17 hinv15 hgo14 h
    show aK _ _ _ _ _ ⟨tab [(3, vi (a0.Init.length : Int)), (40, eU a0.Rules), (41, vi (a0.Rules.length : Int)), (42, vi i12)], ac [], 0⟩
    have hc16 : decide (i12 < (a0.Rules.length : Int)) = true := decide_eq_true hgo14
    refine al ⟨tab [(3, vi (a0.Init.length : Int)), (40, eU a0.Rules), (41, vi (a0.Rules.length : Int)), (42, vi i12), (43, vb (decide (i12 < (a0.Rules.length : Int))))], ac [], 0⟩ ?_ ?_
    ·
     refine q1 _ ?_
     exact nR []
    refine cz 41 rfl fun hB13 => ?_
    refine aF ?_
    refine aU (t := decide (i12 < (a0.Rules.length : Int))) rfl hc16 ?_
    refine bd ?_
    refine aF ?_
    refine bz ?_
    obtain ⟨x18, hx18, h⟩ := aw h
    refine al ⟨tab [(3, vi (a0.Init.length : Int)), (5, .ptr 0 0 0), (40, eU a0.Rules), (41, vi (a0.Rules.length : Int)), (42, vi i12)], ac [(0, .var [b6 x18.When, b6 x18.Guard, b6 x18.Then])], 1⟩ ?_ ?_
    ·
     refine step (v := .d (.cptr (some 3) (gu x18) 0)) (b4 (xs := a0.Rules) (e := gu) hx18 rfl rfl) ?_
     refine q1 _ ?_
     refine step (v := .ptr 0 0 0) (σ' := (ak (ac []) 0 (some (.var [b6 [], b6 [], b6 []])))) (n' := 1) rfl ?_
     refine step (v := V.undef) (σ' := (ak (ak (ac []) 0 (some (.var [b6 [], b6 [], b6 []]))) 0 (some (.var [b6 x18.When, b6 x18.Guard, b6 x18.Then])))) (n' := 1) rfl ?_
     exact nR [0]
    obtain ⟨y23, hv, h⟩ := aw h
    refine al ⟨tab [(3, vi (a0.Init.length : Int)), (5, .ptr 0 0 0), (6, vb y23), (40, eU a0.Rules), (41, vi (a0.Rules.length : Int)), (42, vi i12)], ac [(0, .var [b6 x18.When, b6 x18.Guard, b6 x18.Then])], 1⟩ ?_ ?_
    ·
     iterate 2 refine q1 _ ?_
     refine step (v := vi (x18.When.length : Int)) (bG (xs := x18.When) (e := dk) rfl) ?_
     iterate 2 refine q1 _ ?_
     by_cases hg19 : decide ((x18.When.length : Int) ≥ 2) = true
     ·
      replace hv := aO hg19 hv
      obtain ⟨x20, hx20, hv⟩ := aw hv
      refine qG _ hg19 ?_
      refine q1 _ ?_
      refine qG _ hg19 ?_
      refine q1 _ ?_
      refine qG _ hg19 ?_
      refine step (v := .d (.cptr (some 2) (dk x20) 0)) (b4 (xs := x18.When) (e := dk) hx20 rfl rfl) ?_
      refine qG _ hg19 ?_
      refine q1 _ ?_
      refine qG _ hg19 ?_
      refine q1 _ ?_
      refine qG _ hg19 ?_
      refine q1 _ ?_
      refine step (v := vb (x20.F == 0)) (bD (b := decide ((x18.When.length : Int) ≥ 2)) rfl hg19 rfl) ?_
      refine q1 _ ?_
      by_cases hg21 : (x20.F == 0) = true
      ·
       replace hv := aO hg21 hv
       obtain ⟨x22, hx22, hv⟩ := aw hv
       refine qG _ hg21 ?_
       refine q1 _ ?_
       refine qG _ hg21 ?_
       refine q1 _ ?_
       refine qG _ hg21 ?_
       refine step (v := .d (.cptr (some 2) (dk x22) 0)) (b4 (xs := x18.When) (e := dk) hx22 rfl rfl) ?_
       refine qG _ hg21 ?_
       refine q1 _ ?_
       refine qG _ hg21 ?_
       refine q1 _ ?_
       refine qG _ hg21 ?_
       refine q1 _ ?_
       refine step (v := vb (x22.F == 1)) (bD (b := (x20.F == 0)) rfl hg21 rfl) ?_
       refine q1 _ ?_
       have hh := ar hv
       subst hh
       exact nR [0]
      ·
       replace hv := aP hg21 hv
       iterate 6 refine qX _ hg21 ?_
       refine step (v := vb false) (bu (b := (x20.F == 0)) rfl hg21 rfl) ?_
       refine q1 _ ?_
       have hh := ar hv
       subst hh
       exact nR [0]
     ·
      replace hv := aP hg19 hv
      iterate 6 refine qX _ hg19 ?_
      refine step (v := vb false) (bu (b := decide ((x18.When.length : Int) ≥ 2)) rfl hg19 rfl) ?_
      refine q1 _ ?_
      iterate 6 refine qX false (by decide) ?_
      refine step (v := vb false) (bu (b := false) rfl (by decide) rfl) ?_
      refine q1 _ ?_
      have hh := ar hv
      subst hh
      exact nR [0]
    obtain ⟨y32, hv, h⟩ := aw h
    refine al ⟨tab [(3, vi (a0.Init.length : Int)), (40, eU a0.Rules), (41, vi (a0.Rules.length : Int)), (42, vi i12), (93, vb y32)], ac [], 0⟩ ?_ ?_
    ·
     iterate 3 refine q1 _ ?_
     by_cases hg25 : (!y23) = true
     ·
      replace hv := aO hg25 hv
      iterate 4 refine qX (!y23) (by rw [hg25]; decide) ?_
      refine step (v := vb true) (bD (b := (!y23)) rfl hg25 rfl) ?_
      refine q1 _ ?_
      iterate 5 refine qX true (by decide) ?_
      refine step (v := vb true) (bD (b := true) rfl rfl rfl) ?_
      refine q1 _ ?_
      iterate 5 refine qX true (by decide) ?_
      refine step (v := vb true) (bD (b := true) rfl rfl rfl) ?_
      refine q1 _ ?_
      iterate 4 refine qX true (by decide) ?_
      refine step (v := vb true) (bD (b := true) rfl rfl rfl) ?_
      have hh := ar hv
      subst hh
      exact nR []
     ·
      replace hv := aP hg25 hv
      obtain ⟨r26, hr26, hv⟩ := aw hv
      refine qG (!y23) (Bool.eq_false_iff.2 hg25) ?_
      refine q1 _ ?_
      refine qG (!y23) (Bool.eq_false_iff.2 hg25) ?_
      refine q1 _ ?_
      refine qG (!y23) (Bool.eq_false_iff.2 hg25) ?_
      refine bx (r := .bool r26) (aI (aI aS.nil')) (kF hr26) ?_
      refine qG (!y23) (Bool.eq_false_iff.2 hg25) ?_
      refine q1 _ ?_
      refine step (v := vb (!r26)) (bu (b := (!y23)) rfl hg25 rfl) ?_
      refine q1 _ ?_
      by_cases hg27 : (!r26) = true
      ·
       replace hv := aO hg27 hv
       iterate 5 refine qX (!r26) (by rw [hg27]; decide) ?_
       refine step (v := vb true) (bD (b := (!r26)) rfl hg27 rfl) ?_
       refine q1 _ ?_
       iterate 5 refine qX true (by decide) ?_
       refine step (v := vb true) (bD (b := true) rfl rfl rfl) ?_
       refine q1 _ ?_
       iterate 4 refine qX true (by decide) ?_
       refine step (v := vb true) (bD (b := true) rfl rfl rfl) ?_
       have hh := ar hv
       subst hh
       exact nR []
      ·
       replace hv := aP hg27 hv
       obtain ⟨r28, hr28, hv⟩ := aw hv
       refine qG (!r26) (Bool.eq_false_iff.2 hg27) ?_
       refine q1 _ ?_
       refine qG (!r26) (Bool.eq_false_iff.2 hg27) ?_
       refine q1 _ ?_
       refine qG (!r26) (Bool.eq_false_iff.2 hg27) ?_
       refine q1 _ ?_
       refine qG (!r26) (Bool.eq_false_iff.2 hg27) ?_
       refine bx (r := .bool r28) (aI (aI aS.nil')) (kF hr28) ?_
       refine qG (!r26) (Bool.eq_false_iff.2 hg27) ?_
       refine q1 _ ?_
       refine step (v := vb (!r28)) (bu (b := (!r26)) rfl hg27 rfl) ?_
       refine q1 _ ?_
       by_cases hg29 : (!r28) = true
       ·
        replace hv := aO hg29 hv
        iterate 5 refine qX (!r28) (by rw [hg29]; decide) ?_
        refine step (v := vb true) (bD (b := (!r28)) rfl hg29 rfl) ?_
        refine q1 _ ?_
        iterate 4 refine qX true (by decide) ?_
        refine step (v := vb true) (bD (b := true) rfl rfl rfl) ?_
        have hh := ar hv
        subst hh
        exact nR []
       ·
        replace hv := aP hg29 hv
        obtain ⟨r30, hr30, hv⟩ := aw hv
        refine qG (!r28) (Bool.eq_false_iff.2 hg29) ?_
        refine q1 _ ?_
        refine qG (!r28) (Bool.eq_false_iff.2 hg29) ?_
        refine q1 _ ?_
        refine qG (!r28) (Bool.eq_false_iff.2 hg29) ?_
        refine q1 _ ?_
        refine qG (!r28) (Bool.eq_false_iff.2 hg29) ?_
        refine bx (r := .bool r30) (aI (aI aS.nil')) (kF hr30) ?_
        refine qG (!r28) (Bool.eq_false_iff.2 hg29) ?_
        refine q1 _ ?_
        refine step (v := vb (!r30)) (bu (b := (!r28)) rfl hg29 rfl) ?_
        refine q1 _ ?_
        by_cases hg31 : (!r30) = true
        ·
         replace hv := aO hg31 hv
         iterate 4 refine qX (!r30) (by rw [hg31]; decide) ?_
         refine step (v := vb true) (bD (b := (!r30)) rfl hg31 rfl) ?_
         have hh := ar hv
         subst hh
         exact nR []
        ·
         replace hv := aP hg31 hv
         refine qG (!r30) (Bool.eq_false_iff.2 hg31) ?_
         refine q1 _ ?_
         refine qG (!r30) (Bool.eq_false_iff.2 hg31) ?_
         refine q1 _ ?_
         refine qG (!r30) (Bool.eq_false_iff.2 hg31) ?_
         refine step (v := vi (x18.Then.length : Int)) (bG (xs := x18.Then) (e := dk) rfl) ?_
         refine qG (!r30) (Bool.eq_false_iff.2 hg31) ?_
         refine q1 _ ?_
         refine step (v := vb ((x18.Then.length : Int) == 0)) (bu (b := (!r30)) rfl hg31 rfl) ?_
         have hh := ar hv
         subst hh
         exact nR []
    by_cases hc34 : y32 = true
    ·
     replace h := aO hc34 h
     refine aU (t := y32) rfl hc34 ?_
     refine al ⟨tab [(2, vi 11)], ac [], 0⟩ ?_ ?_
     ·
      refine q1 _ ?_
      exact nR []
     obtain ⟨r35, kr35, hr⟩ := co (o := some 11) (g := Br.ret) h
     subst hr
     have h := kr35
     have hh := ar h
     subst hh
     refine aN ?_
     refine And.intro (fun hn => nomatch hn) ?_
     intro hq
     have hq := hq.symm
     subst hq
     show FQ _ _ _ _
     exact bn (.inr rfl) (be (v := vi 11) rfl rfl) (RV.d trivial)
    ·
     replace h := aP hc34 h
     refine aT (t := y32) rfl hc34 ?_
     refine bd ?_
     have hh := ar h
     subst hh
     refine bT ⟨tab [(3, vi (a0.Init.length : Int)), (40, eU a0.Rules), (41, vi (a0.Rules.length : Int)), (42, vi (i12 + 1))], ac [], 0⟩ ?_ ?_
     ·
      refine step (v := vi (i12 + 1)) (cC (cD hinv15 hgo14 hB13) rfl rfl) ?_
      refine q1 _ ?_
      exact nR []
     exact And.intro rfl rfl
   ·
    rintro i12 ⟨⟩ hinv15 hgo14
    show aK _ _ _ _ _ ⟨tab [(3, vi (a0.Init.length : Int)), (40, eU a0.Rules), (41, vi (a0.Rules.length : Int)), (42, vi i12)], ac [], 0⟩
    have hc16 : ¬ (decide (i12 < (a0.Rules.length : Int)) = true) := fun hq => hgo14 (of_decide_eq_true hq)
    refine al ⟨tab [(3, vi (a0.Init.length : Int)), (40, eU a0.Rules), (41, vi (a0.Rules.length : Int)), (42, vi i12), (43, vb (decide (i12 < (a0.Rules.length : Int))))], ac [], 0⟩ ?_ ?_
    ·
     refine q1 _ ?_
     exact nR []
    refine aF ?_
    refine aT (t := decide (i12 < (a0.Rules.length : Int))) rfl hc16 ?_
    refine aX (s0 := ⟨tab [], ac [], 0⟩) (nr []) ?_
    refine cn ?_
    exact And.intro rfl rfl
   ·
    intro r' hq
    subst hq
    exact ar h
   rintro ⟨⟩ rfl
   refine al ⟨tab [(2, vi 0)], ac [], 0⟩ ?_ ?_
   ·
    refine q1 _ ?_
    exact nR []
   have hh := ar h
   subst hh
   refine aN ?_
   show FQ _ _ _ _
   exact bn (.inr rfl) (be (v := vi 0) rfl rfl) (RV.d trivial)
theorem gw {a0 : Bool} {a1 : (A8 Int)} {r : (List (A8 Int))} (h : fQ a0 a1 = some r) : PCall Try.prog 77 [.bool a0, eA8 (D.int .u16) a1] (eL (some 8) (eA8 (D.int .u16)) r) := by
 refine PCall.introN sn (show 2 ≤ 9 by decide) ?_
 refine aX (s0 := ⟨tab [(0, vb a0), (1, .d (eA8 (D.int .u16) a1))], ac [], 0⟩) (nr []) ?_
 refine al ⟨tab [(0, vb a0), (3, .d (.cptr (some 8) (eA8 (D.int .u16) a1) 0))], ac [], 0⟩ ?_ ?_
 ·
  iterate 2 refine q1 _ ?_
  exact nR []
 refine aF ?_
 refine al ⟨tab [(3, .d (.cptr (some 8) (eA8 (D.int .u16) a1) 0)), (6, vb (!a0))], ac [], 0⟩ ?_ ?_
 ·
  iterate 2 refine q1 _ ?_
  exact nR []
 by_cases hc1 : (!a0) = true
 ·
  replace h := aO hc1 h
  refine aU (t := (!a0)) rfl hc1 ?_
  refine al ⟨tab [(4, .d (eL (some 8) (eA8 (D.int .u16)) ([] : List (A8 Int))))], ac [], 0⟩ ?_ ?_
  ·
   refine q1 _ ?_
   exact nR []
  have hh := ar h
  subst hh
  refine aN ?_
  show FQ _ _ _ _
  exact bn (.inr rfl) (be (v := .d (eL (some 8) (eA8 (D.int .u16)) ([] : List (A8 Int)))) rfl rfl) (RV.d trivial)
 ·
  replace h := aP hc1 h
  refine aT (t := (!a0)) rfl hc1 ?_
  refine bd ?_
  refine al ⟨tab [(4, .d (eL (some 8) (eA8 (D.int .u16)) ([a1] : List (A8 Int))))], ac [], 0⟩ ?_ ?_
  ·
   iterate 3 refine q1 _ ?_
   exact nR []
  have hh := ar h
  subst hh
  refine aN ?_
  show FQ _ _ _ _
  exact bn (.inr rfl) (be (v := .d (eL (some 8) (eA8 (D.int .u16)) ([a1] : List (A8 Int)))) rfl rfl) (RV.d trivial)
theorem ut {a0 : (List Int)} {a1 : am} {r : Bool} (h : mX a0 a1 = some r) : PCall Try.prog 54 [eL none (D.int .u16) a0, bY a1] (.bool r) := by
 refine PCall.introN sq (show 2 ≤ 25 by decide) ?_
 refine aX (s0 := ⟨tab [(0, aq a0), (1, cg a1)], ac [], 0⟩) (nr []) ?_
 refine al ⟨tab [(0, aq a0), (3, bf a1)], ac [], 0⟩ ?_ ?_
 ·
  iterate 2 refine q1 _ ?_
  exact nR []
 obtain ⟨y4, hv, h⟩ := aw h
 refine al ⟨tab [(4, vb y4)], ac [], 0⟩ ?_ ?_
 ·
  iterate 4 refine q1 _ ?_
  by_cases hg1 : decide (a1.F ≥ 0) = true
  ·
   replace hv := aO hg1 hv
   refine qG _ hg1 ?_
   refine q1 _ ?_
   refine qG _ hg1 ?_
   refine q1 _ ?_
   refine qG _ hg1 ?_
   refine q1 _ ?_
   refine qG _ hg1 ?_
   refine step (v := vi (a0.length : Int)) (bG (xs := a0) (e := (D.int .u16)) rfl) ?_
   refine qG _ hg1 ?_
   refine q1 _ ?_
   refine step (v := vb (decide (a1.F < (a0.length : Int)))) (bD (b := decide (a1.F ≥ 0)) rfl hg1 rfl) ?_
   refine q1 _ ?_
   by_cases hg2 : decide (a1.F < (a0.length : Int)) = true
   ·
    replace hv := aO hg2 hv
    obtain ⟨x3, hx3, hv⟩ := aw hv
    refine qG _ hg2 ?_
    refine q1 _ ?_
    refine qG _ hg2 ?_
    refine q1 _ ?_
    refine qG _ hg2 ?_
    refine q1 _ ?_
    refine qG _ hg2 ?_
    refine step (v := .d (.cptr none (.int .u16 x3) 0)) (b4 (xs := a0) (e := (D.int .u16)) hx3 rfl rfl) ?_
    refine qG _ hg2 ?_
    refine q1 _ ?_
    refine qG _ hg2 ?_
    refine q1 _ ?_
    refine qG _ hg2 ?_
    refine q1 _ ?_
    refine qG _ hg2 ?_
    refine q1 _ ?_
    refine step (v := vb (x3 == a1.N)) (bD (b := decide (a1.F < (a0.length : Int))) rfl hg2 rfl) ?_
    refine q1 _ ?_
    have hh := ar hv
    subst hh
    exact nR []
   ·
    replace hv := aP hg2 hv
    iterate 8 refine qX _ hg2 ?_
    refine step (v := vb false) (bu (b := decide (a1.F < (a0.length : Int))) rfl hg2 rfl) ?_
    refine q1 _ ?_
    have hh := ar hv
    subst hh
    exact nR []
  ·
   replace hv := aP hg1 hv
   iterate 5 refine qX _ hg1 ?_
   refine step (v := vb false) (bu (b := decide (a1.F ≥ 0)) rfl hg1 rfl) ?_
   refine q1 _ ?_
   iterate 8 refine qX false (by decide) ?_
   refine step (v := vb false) (bu (b := false) rfl (by decide) rfl) ?_
   refine q1 _ ?_
   have hh := ar hv
   subst hh
   exact nR []
 have hh := ar h
 subst hh
 refine aN ?_
 show FQ _ _ _ _
 exact bn (.inr rfl) (be (v := vb y4) rfl rfl) (RV.d trivial)
theorem uv {a0 : Int} {r : Bool} (h : mY a0 = some r) : PCall Try.prog 100 [.int .i64 a0] (.bool r) := by
 refine PCall.introN ss (show 1 ≤ 9 by decide) ?_
 refine aX (s0 := ⟨tab [(0, vi a0)], ac [], 0⟩) (nr []) ?_
 refine al ⟨tab [(0, vi a0)], ac [], 0⟩ ?_ ?_
 ·
  refine q1 _ ?_
  exact nR []
 refine al ⟨tab [(2, vb ((decide (a0 ≥ 0)) && (decide (a0 < 8))))], ac [], 0⟩ ?_ ?_
 ·
  iterate 3 refine q1 _ ?_
  by_cases hg1 : decide (a0 ≥ 0) = true
  ·
   refine qG _ hg1 ?_
   refine q1 _ ?_
   refine qG _ hg1 ?_
   refine q1 _ ?_
   refine step (v := vb (decide (a0 < 8))) (bD (b := decide (a0 ≥ 0)) rfl hg1 rfl) ?_
   refine q1 _ ?_
   exact bh.nil' (nm [] ⟨.eq (by first | (simp [hg1]; done) | (simp_all; done) | grind), trivial⟩ trivial)
  ·
   iterate 2 refine qX _ hg1 ?_
   refine step (v := vb false) (bu (b := decide (a0 ≥ 0)) rfl hg1 rfl) ?_
   refine q1 _ ?_
   exact bh.nil' (nm [] ⟨.eq (by first | (simp [hg1]; done) | (simp_all; done) | grind), trivial⟩ trivial)
 have hh := ar h
 subst hh
 refine aN ?_
 show FQ _ _ _ _
 exact bn (.inr rfl) (be (v := vb ((decide (a0 ≥ 0)) && (decide (a0 < 8)))) rfl rfl) (RV.d trivial)
theorem uw {a0 : (A8 Int)} {a1 : Int} {a2 : Int} {r : (A8 Int)} (h : mZ a0 a1 a2 = some r) : PCall Try.prog 78 [eA8 (D.int .u16) a0, .int .i64 a1, .int .u16 a2] (eA8 (D.int .u16) r) := by
 refine PCall.introN sv (show 3 ≤ 13 by decide) ?_
 refine aX (s0 := ⟨tab [(0, .d (eA8 (D.int .u16) a0)), (1, vi a1), (2, vh a2)], ac [], 0⟩) (nr []) ?_
 refine al ⟨tab [(1, vi a1), (2, vh a2), (3, .ptr 0 0 0), (6, .ptr 1 0 0)], ac [(0, .var [vh a0.a0, vh a0.a1, vh a0.a2, vh a0.a3, vh a0.a4, vh a0.a5, vh a0.a6, vh a0.a7]), (1, bR)], 2⟩ ?_ ?_
 ·
  refine step (v := .ptr 0 0 0) (σ' := (ak (ac []) 0 (some (.var [vh a0.a0, vh a0.a1, vh a0.a2, vh a0.a3, vh a0.a4, vh a0.a5, vh a0.a6, vh a0.a7])))) (n' := 1) rfl ?_
  refine step (v := .ptr 1 0 0) (σ' := (ak (ak (ac []) 0 (some (.var [vh a0.a0, vh a0.a1, vh a0.a2, vh a0.a3, vh a0.a4, vh a0.a5, vh a0.a6, vh a0.a7]))) 1 (some (bR)))) (n' := 2) rfl ?_
  exact nR [0, 1]
 obtain ⟨y5, hv, h⟩ := aw h
 refine eO ⟨tab [(3, .ptr 0 0 0), (6, .ptr 1 0 0)], ac [(0, .var [vh y5.a0, vh y5.a1, vh y5.a2, vh y5.a3, vh y5.a4, vh y5.a5, vh y5.a6, vh y5.a7]), (1, bR)], 2⟩ ?_ ?_
 ·
  replace h := hv
  obtain ⟨r1, hr1, h⟩ := aw h
  refine al ⟨tab [(1, vi a1), (2, vh a2), (3, .ptr 0 0 0), (6, .ptr 1 0 0), (8, vb r1)], ac [(0, .var [vh a0.a0, vh a0.a1, vh a0.a2, vh a0.a3, vh a0.a4, vh a0.a5, vh a0.a6, vh a0.a7]), (1, bR)], 2⟩ ?_ ?_
  ·
   refine q1 _ ?_
   refine bx (r := .bool r1) (aI aS.nil') (uv hr1) ?_
   exact nR [0, 1]
  by_cases hc2 : r1 = true
  ·
   replace h := aO hc2 h
   refine aU (t := r1) rfl hc2 ?_
   obtain ⟨x3, hx3, h⟩ := aw h
   obtain ⟨x4, hx4, h⟩ := aw h
   have hh := ar h
   subst hh
   refine bT ⟨tab [(3, .ptr 0 0 0), (6, .ptr 1 0 0)], ac [(0, .var [vh x4.a0, vh x4.a1, vh x4.a2, vh x4.a3, vh x4.a4, vh x4.a5, vh x4.a6, vh x4.a7]), (1, bR)], 2⟩ ?_ ?_
   ·
    iterate 2 refine q1 _ ?_
    refine step (v := .ptr 0 0 (0 + a1.toNat * 1)) (qA (xs := a0.l) hx3 rfl rfl rfl) ?_
    refine step (v := V.undef) (σ' := (ak (ac [(0, .var [vh a0.a0, vh a0.a1, vh a0.a2, vh a0.a3, vh a0.a4, vh a0.a5, vh a0.a6, vh a0.a7]), (1, bR)]) 0 (some (.var [vh x4.a0, vh x4.a1, vh x4.a2, vh x4.a3, vh x4.a4, vh x4.a5, vh x4.a6, vh x4.a7])))) (n' := 2) (qB (e := (D.int .u16)) (xs := a0.l) (xs' := x4.l) (pre := []) (post := []) (A8.put_l hx4) rfl rfl rfl rfl rfl rfl) ?_
    exact nR [0, 1]
   exact And.intro rfl rfl
  ·
   replace h := aP hc2 h
   refine aT (t := r1) rfl hc2 ?_
   have hh := ar h
   subst hh
   refine aX (s0 := ⟨tab [(3, .ptr 0 0 0), (6, .ptr 1 0 0)], ac [(0, .var [vh a0.a0, vh a0.a1, vh a0.a2, vh a0.a3, vh a0.a4, vh a0.a5, vh a0.a6, vh a0.a7]), (1, bR)], 2⟩) (nr [0, 1]) ?_
   refine bd ?_
   exact And.intro rfl rfl
 refine al ⟨tab [(6, .ptr 0 0 0)], ac [(0, .var [vh y5.a0, vh y5.a1, vh y5.a2, vh y5.a3, vh y5.a4, vh y5.a5, vh y5.a6, vh y5.a7])], 1⟩ ?_ ?_
 ·
  refine step (v := .d (eA8 (D.int .u16) y5)) (b5 (ds := [.int .u16 y5.a0, .int .u16 y5.a1, .int .u16 y5.a2, .int .u16 y5.a3, .int .u16 y5.a4, .int .u16 y5.a5, .int .u16 y5.a6, .int .u16 y5.a7]) rfl rfl (show 8 ≤ 8 by decide) rfl) ?_
  refine step (v := V.undef) (σ' := (ak (ac [(0, .var [vh y5.a0, vh y5.a1, vh y5.a2, vh y5.a3, vh y5.a4, vh y5.a5, vh y5.a6, vh y5.a7]), (1, bR)]) 1 (some (.var [vh y5.a0, vh y5.a1, vh y5.a2, vh y5.a3, vh y5.a4, vh y5.a5, vh y5.a6, vh y5.a7])))) (n' := 2) rfl ?_
  exact nR [1]
 have hh := ar h
 subst hh
 refine aN ?_
 show FQ _ _ _ _
 exact bn (.inr rfl) (en (ds := [.int .u16 y5.a0, .int .u16 y5.a1, .int .u16 y5.a2, .int .u16 y5.a3, .int .u16 y5.a4, .int .u16 y5.a5, .int .u16 y5.a6, .int .u16 y5.a7]) rfl rfl (show 8 ≤ 8 by decide) rfl rfl) (RV.d trivial)
theorem uz {a0 : Int} {r : Int} (h : m0 a0 = some r) : PCall Try.prog 135 [.int .u64 a0] (.int .i64 r) := by
 refine PCall.introN sx (show 1 ≤ 25 by decide) ?_
 refine aX (s0 := ⟨tab [(0, .d (.int .u64 a0))], ac [], 0⟩) (nr []) ?_
 refine al ⟨tab [(0, .d (.int .u64 a0)), (2, vi 0)], ac [], 0⟩ ?_ ?_
 ·
  refine q1 _ ?_
  exact nR []
 obtain ⟨q4, hv, h⟩ := aw h
 obtain ⟨y2, y3⟩ := q4
 refine eO ⟨tab [(0, .d (.int .u64 y2)), (2, vi y3)], ac [], 0⟩ ?_ ?_
 ·
  replace h := hv
  refine al ⟨tab [(0, .d (.int .u64 a0)), (2, vi 0), (4, vb (decide (a0 ≥ 4294967296)))], ac [], 0⟩ ?_ ?_
  ·
   iterate 2 refine q1 _ ?_
   exact nR []
  by_cases hc1 : decide (a0 ≥ 4294967296) = true
  ·
   replace h := aO hc1 h
   refine aU (t := decide (a0 ≥ 4294967296)) rfl hc1 ?_
   refine al ⟨tab [(0, .d (.int .u64 (a0.fdiv (2 ^ 32))))], ac [], 0⟩ ?_ ?_
   ·
    iterate 3 refine q1 _ ?_
    exact nR []
   have hh := ar h
   obtain ⟨he0, ht0⟩ := Prod.mk.inj hh
   subst he0
   subst ht0
   refine bT ⟨tab [(0, .d (.int .u64 (a0.fdiv (2 ^ 32)))), (2, vi 32)], ac [], 0⟩ ?_ ?_
   ·
    refine q1 _ ?_
    exact nR []
   exact And.intro rfl rfl
  ·
   replace h := aP hc1 h
   refine aT (t := decide (a0 ≥ 4294967296)) rfl hc1 ?_
   have hh := ar h
   obtain ⟨he0, ht0⟩ := Prod.mk.inj hh
   subst he0
   subst ht0
   refine aX (s0 := ⟨tab [(0, .d (.int .u64 a0)), (2, vi 0)], ac [], 0⟩) (nr []) ?_
   refine bd ?_
   exact And.intro rfl rfl
 obtain ⟨q8, hv, h⟩ := aw h
 obtain ⟨y6, y7⟩ := q8
 refine eO ⟨tab [(0, .d (.int .u64 y6)), (2, vi y7)], ac [], 0⟩ ?_ ?_
 ·
  replace h := hv
  refine al ⟨tab [(0, .d (.int .u64 y2)), (2, vi y3), (8, vb (decide (y2 ≥ 65536)))], ac [], 0⟩ ?_ ?_
  ·
   iterate 2 refine q1 _ ?_
   exact nR []
  by_cases hc5 : decide (y2 ≥ 65536) = true
  ·
   replace h := aO hc5 h
   refine aU (t := decide (y2 ≥ 65536)) rfl hc5 ?_
   refine al ⟨tab [(0, .d (.int .u64 (y2.fdiv (2 ^ 16)))), (2, vi y3)], ac [], 0⟩ ?_ ?_
   ·
    iterate 3 refine q1 _ ?_
    exact nR []
   have hh := ar h
   obtain ⟨he0, ht0⟩ := Prod.mk.inj hh
   subst he0
   subst ht0
   refine bT ⟨tab [(0, .d (.int .u64 (y2.fdiv (2 ^ 16)))), (2, vi (IntKind.i64.wrap (y3 + 16)))], ac [], 0⟩ ?_ ?_
   ·
    iterate 3 refine q1 _ ?_
    exact nR []
   exact And.intro rfl rfl
  ·
   replace h := aP hc5 h
   refine aT (t := decide (y2 ≥ 65536)) rfl hc5 ?_
   have hh := ar h
   obtain ⟨he0, ht0⟩ := Prod.mk.inj hh
   subst he0
   subst ht0
   refine aX (s0 := ⟨tab [(0, .d (.int .u64 y2)), (2, vi y3)], ac [], 0⟩) (nr []) ?_
   refine bd ?_
   exact And.intro rfl rfl
 obtain ⟨q12, hv, h⟩ := aw h
 obtain ⟨y10, y11⟩ := q12
 refine eO ⟨tab [(0, .d (.int .u64 y10)), (2, vi y11)], ac [], 0⟩ ?_ ?_
 ·
  replace h := hv
  refine al ⟨tab [(0, .d (.int .u64 y6)), (2, vi y7), (14, vb (decide (y6 ≥ 256)))], ac [], 0⟩ ?_ ?_
  ·
   iterate 2 refine q1 _ ?_
   exact nR []
  by_cases hc9 : decide (y6 ≥ 256) = true
  ·
   replace h := aO hc9 h
   refine aU (t := decide (y6 ≥ 256)) rfl hc9 ?_
   refine al ⟨tab [(0, .d (.int .u64 (y6.fdiv (2 ^ 8)))), (2, vi y7)], ac [], 0⟩ ?_ ?_
   ·
    iterate 3 refine q1 _ ?_
    exact nR []
   have hh := ar h
   obtain ⟨he0, ht0⟩ := Prod.mk.inj hh
   subst he0
   subst ht0
   refine bT ⟨tab [(0, .d (.int .u64 (y6.fdiv (2 ^ 8)))), (2, vi (IntKind.i64.wrap (y7 + 8)))], ac [], 0⟩ ?_ ?_
   ·
    iterate 3 refine q1 _ ?_
    exact nR []
   exact And.intro rfl rfl
  ·
   replace h := aP hc9 h
   refine aT (t := decide (y6 ≥ 256)) rfl hc9 ?_
   have hh := ar h
   obtain ⟨he0, ht0⟩ := Prod.mk.inj hh
   subst he0
   subst ht0
   refine aX (s0 := ⟨tab [(0, .d (.int .u64 y6)), (2, vi y7)], ac [], 0⟩) (nr []) ?_
   refine bd ?_
   exact And.intro rfl rfl
 obtain ⟨b13, hb13, h⟩ := aw h
 refine al ⟨tab [(2, vi (IntKind.i64.wrap (y11 + (IntKind.i64.wrap b13))))], ac [], 0⟩ ?_ ?_
 ·
  iterate 3 refine q1 _ ?_
  refine step (v := v8 b13) (qn hb13 rfl rfl) ?_
  iterate 3 refine q1 _ ?_
  exact nR []
 have hh := ar h
 subst hh
 refine aN ?_
 show FQ _ _ _ _
 exact bn (.inr rfl) (be (v := vi (IntKind.i64.wrap (y11 + (IntKind.i64.wrap b13)))) rfl rfl) (RV.d trivial)
theorem uA {a0 : Int} {r : Int} (h : m4 a0 = some r) : PCall Try.prog 122 [.int .u64 a0] (.int .i64 r) := by
 refine PCall.introN sA (show 1 ≤ 8 by decide) ?_
 refine aX (s0 := ⟨tab [(0, .d (.int .u64 a0))], ac [], 0⟩) (nr []) ?_
 refine al ⟨tab [(0, .d (.int .u64 a0))], ac [], 0⟩ ?_ ?_
 ·
  refine q1 _ ?_
  exact nR []
 refine aF ?_
 refine aT (t := false) rfl (by decide) ?_
 refine bd ?_
 obtain ⟨r1, hr1, h⟩ := aw h
 refine al ⟨tab [(2, vi r1)], ac [], 0⟩ ?_ ?_
 ·
  refine q1 _ ?_
  refine bx (r := .int .i64 r1) (aI aS.nil') (uz hr1) ?_
  refine q1 _ ?_
  exact nR []
 have hh := ar h
 subst hh
 refine aN ?_
 show FQ _ _ _ _
 exact bn (.inr rfl) (be (v := vi r1) rfl rfl) (RV.d trivial)
theorem uB {a0 : (List (A8 Int))} {a1 : Int} {a2 : Int} {a3 : ((A8 Int) → (A8 Int) → Option Int)} {g_a3 : D} (hf_a3 : jP Try.prog g_a3 (eA8 (D.int .u16)) (eA8 (D.int .u16)) (D.int .i64) a3) {r : (List (A8 Int))} (h : iG a0 a1 a2 a3 = some r) : bO Try.prog 126 [.loc 0 0 a0.length, vi a1, vi a2, .d g_a3] (ac [(0, .lst true (some 8) (List.map (eA8 (D.int .u16)) a0))]) 1 (.d (.tup [])) (ac [(0, .lst true (some 8) (List.map (eA8 (D.int .u16)) r))]) 1 := by
 obtain ⟨fn_a3, cap_a3, rfl, hc_a3⟩ := hf_a3
 refine bO.introN (bl := [(0, .lst true (some 8) (List.map (eA8 (D.int .u16)) a0))]) (bl' := [(0, .lst true (some 8) (List.map (eA8 (D.int .u16)) r))]) sE (show 4 ≤ 53 by decide) rfl ?_
 refine aX (s0 := ⟨tab [(0, .loc 0 0 a0.length), (1, vi a1), (2, vi a2), (3, .d (.func fn_a3 cap_a3))], ac [(0, .lst true (some 8) (List.map (eA8 (D.int .u16)) a0))], 1⟩) (nr [0]) ?_
 refine al ⟨tab [(0, .loc 0 0 a0.length), (1, vi a1), (2, vi a2), (3, .d (.func fn_a3 cap_a3)), (8, vi (IntKind.i64.wrap (a1 + 1)))], ac [(0, .lst true (some 8) (List.map (eA8 (D.int .u16)) a0))], 1⟩ ?_ ?_
 ·
  iterate 3 refine q1 _ ?_
  exact nR [0]
 obtain ⟨z26, hl, h⟩ := aw h
 refine cz 8 rfl fun hA28 => ?_
 refine bz ?_
 refine fN (cA a2) (fun (i2 : Int) (qq : (List (A8 Int))) => ⟨tab [(0, .loc 0 0 qq.length), (1, vi a1), (2, vi a2), (3, .d (.func fn_a3 cap_a3)), (8, vi i2)], ac [(0, .lst true (some 8) (List.map (eA8 (D.int .u16)) qq))], 1⟩) 0 (fun (qq : (List (A8 Int))) => ⟨tab [], ac [(0, .lst true (some 8) (List.map (eA8 (D.int .u16)) qq))], 1⟩) bF cB hl (qu hA28) ?_ ?_ ?_
 ·
  rintro i2 l1 xr7 hinv5 hgo4 h
  show aK _ _ _ _ _ ⟨tab [(0, .loc 0 0 l1.length), (1, vi a1), (2, vi a2), (3, .d (.func fn_a3 cap_a3)), (8, vi i2)], ac [(0, .lst true (some 8) (List.map (eA8 (D.int .u16)) l1))], 1⟩
  have hc6 : decide (i2 < a2) = true := decide_eq_true hgo4
  refine aF ?_
  refine al ⟨tab [(0, .loc 0 0 l1.length), (1, vi a1), (2, vi a2), (3, .d (.func fn_a3 cap_a3)), (8, vi i2), (13, vi a2), (14, vb (decide (i2 < a2)))], ac [(0, .lst true (some 8) (List.map (eA8 (D.int .u16)) l1))], 1⟩ ?_ ?_
  ·
   iterate 3 refine q1 _ ?_
   exact nR [0]
  refine cz 13 rfl fun hB3 => ?_
  refine aU (t := decide (i2 < a2)) rfl hc6 ?_
  refine bd ?_
  refine aF ?_
  refine bz ?_
  refine al ⟨tab [(0, .loc 0 0 l1.length), (1, vi a1), (2, vi a2), (3, .d (.func fn_a3 cap_a3)), (8, vi i2), (9, vi i2)], ac [(0, .lst true (some 8) (List.map (eA8 (D.int .u16)) l1))], 1⟩ ?_ ?_
  ·
   iterate 2 refine q1 _ ?_
   exact nR [0]
  obtain ⟨q25, hl, h⟩ := aw h
  obtain ⟨z23, z24⟩ := q25
  refine bz ?_
  refine mx (fun (qq : ((List (A8 Int)) × Int)) => ⟨tab [(0, .loc 0 0 qq.1.length), (1, vi a1), (2, vi a2), (3, .d (.func fn_a3 cap_a3)), (8, vi i2), (9, vi qq.2)], ac [(0, .lst true (some 8) (List.map (eA8 (D.int .u16)) qq.1))], 1⟩) 2 (fun (qq : ((List (A8 Int)) × Int)) => ⟨tab [(0, .loc 0 0 qq.1.length), (1, vi a1), (2, vi a2), (3, .d (.func fn_a3 cap_a3)), (8, vi i2)], ac [(0, .lst true (some 8) (List.map (eA8 (D.int .u16)) qq.1))], 1⟩) hl ?_ ?_
  ·
   rintro ⟨l8, i9⟩ xr10 h
   show aK _ _ _ _ _ ⟨tab [(0, .loc 0 0 l8.length), (1, vi a1), (2, vi a2), (3, .d (.func fn_a3 cap_a3)), (8, vi i2), (9, vi i9)], ac [(0, .lst true (some 8) (List.map (eA8 (D.int .u16)) l8))], 1⟩
   refine aF ?_
   obtain ⟨y15, hv, h⟩ := aw h
   refine al ⟨tab [(0, .loc 0 0 l8.length), (1, vi a1), (2, vi a2), (3, .d (.func fn_a3 cap_a3)), (8, vi i2), (9, vi i9), (34, vb y15)], ac [(0, .lst true (some 8) (List.map (eA8 (D.int .u16)) l8))], 1⟩ ?_ ?_
   ·
    iterate 4 refine q1 _ ?_
    by_cases hg11 : decide (i9 > a1) = true
    ·
     replace hv := aO hg11 hv
     obtain ⟨x12, hx12, hv⟩ := aw hv
     obtain ⟨x13, hx13, hv⟩ := aw hv
     obtain ⟨x14, hx14, hv⟩ := aw hv
     refine qG _ hg11 ?_
     refine q1 _ ?_
     refine qG _ hg11 ?_
     refine q1 _ ?_
     refine qG _ hg11 ?_
     refine q1 _ ?_
     refine qG _ hg11 ?_
     refine step (v := .ptr 0 i9.toNat 0) (fo (xs := l8) (e := (eA8 (D.int .u16))) hx12 rfl rfl rfl rfl) ?_
     refine qG _ hg11 ?_
     refine step (v := .d (eA8 (D.int .u16) x12)) (gi (xs := l8) (e := (eA8 (D.int .u16))) hx12 rfl rfl rfl) ?_
     refine qG _ hg11 ?_
     refine q1 _ ?_
     refine qG _ hg11 ?_
     refine q1 _ ?_
     refine qG _ hg11 ?_
     refine q1 _ ?_
     refine qG _ hg11 ?_
     refine step (v := .ptr 0 (IntKind.i64.wrap (i9 - 1)).toNat 0) (fo (xs := l8) (e := (eA8 (D.int .u16))) hx13 rfl rfl rfl rfl) ?_
     refine qG _ hg11 ?_
     refine step (v := .d (eA8 (D.int .u16) x13)) (gi (xs := l8) (e := (eA8 (D.int .u16))) hx13 rfl rfl rfl) ?_
     refine qG _ hg11 ?_
     refine mi (r := .int .i64 x14) rfl (aI (aI aS.nil')) (hc_a3 _ _ _ hx14) ?_
     refine qG _ hg11 ?_
     refine q1 _ ?_
     refine step (v := vb (decide (x14 < 0))) (bD (b := decide (i9 > a1)) rfl hg11 rfl) ?_
     have hh := ar hv
     subst hh
     exact nR [0]
    ·
     replace hv := aP hg11 hv
     iterate 12 refine qX _ hg11 ?_
     refine step (v := vb false) (bu (b := decide (i9 > a1)) rfl hg11 rfl) ?_
     have hh := ar hv
     subst hh
     exact nR [0]
   by_cases hc17 : y15 = true
   ·
    replace h := aO hc17 h
    refine aU (t := y15) rfl hc17 ?_
    refine bd ?_
    refine aF ?_
    refine bz ?_
    obtain ⟨x18, hx18, h⟩ := aw h
    obtain ⟨x19, hx19, h⟩ := aw h
    obtain ⟨l20, hl20, h⟩ := aw h
    obtain ⟨x21, hx21, h⟩ := aw h
    obtain ⟨l22, hl22, h⟩ := aw h
    refine iV ⟨tab [(0, .loc 0 0 l22.length), (1, vi a1), (2, vi a2), (3, .d (.func fn_a3 cap_a3)), (8, vi i2), (9, vi i9)], ac [(0, .lst true (some 8) (List.map (eA8 (D.int .u16)) l22))], 1⟩ ?_ ?_
    ·
     refine bM [] [] (v := .loc 0 0 l8.length) rfl rfl rfl ?_
     refine bM [] [] (v := vi i9) rfl rfl rfl ?_
     refine bM [] [] (v := .loc 0 0 l8.length) rfl rfl rfl ?_
     refine bM [] [] (v := vi i9) rfl rfl rfl ?_
     refine bM [] [] (v := vi (IntKind.i64.wrap (i9 - 1))) rfl rfl rfl ?_
     refine bM [] [] (v := .loc 0 0 l8.length) rfl rfl rfl ?_
     refine bM [] [] (v := vi i9) rfl rfl rfl ?_
     refine bM [] [] (v := vi (IntKind.i64.wrap (i9 - 1))) rfl rfl rfl ?_
     refine bM [0] [] (v := .ptr 0 (IntKind.i64.wrap (i9 - 1)).toNat 0) (fo (xs := l8) (e := (eA8 (D.int .u16))) hx18 rfl rfl rfl rfl) rfl rfl ?_
     refine bM [0] [] (v := .d (eA8 (D.int .u16) x18)) (gi (xs := l8) (e := (eA8 (D.int .u16))) hx18 rfl rfl rfl) rfl rfl ?_
     refine bM [] [] (v := .loc 0 0 l8.length) rfl rfl rfl ?_
     refine bM [] [] (v := vi i9) rfl rfl rfl ?_
     refine bM [0] [] (v := .ptr 0 i9.toNat 0) (fo (xs := l8) (e := (eA8 (D.int .u16))) hx19 rfl rfl rfl rfl) rfl rfl ?_
     refine bM [0] [] (v := .d (eA8 (D.int .u16) x19)) (gi (xs := l8) (e := (eA8 (D.int .u16))) hx19 rfl rfl rfl) rfl rfl ?_
     refine bM [0] [] (v := .ptr 0 i9.toNat 0) (fo (xs := l8) (e := (eA8 (D.int .u16))) hx19 rfl rfl rfl rfl) rfl rfl ?_
     refine bM [0] [0] (v := V.undef) (σ' := (ak (ac [(0, .lst true (some 8) (List.map (eA8 (D.int .u16)) l8))]) 0 (some (.lst true (some 8) (List.map (eA8 (D.int .u16)) l20))))) (n' := 1) (mz (e := (eA8 (D.int .u16))) (v' := x18) hl20 rfl rfl rfl rfl rfl) rfl rfl ?_
     refine bM [0] [] (v := .ptr 0 (IntKind.i64.wrap (i9 - 1)).toNat 0) (fo (xs := l20) (e := (eA8 (D.int .u16))) hx21 rfl rfl (jQ hl20).symm rfl) rfl rfl ?_
     refine bM [0] [0] (v := V.undef) (σ' := (ak (ak (ac [(0, .lst true (some 8) (List.map (eA8 (D.int .u16)) l8))]) 0 (some (.lst true (some 8) (List.map (eA8 (D.int .u16)) l20)))) 0 (some (.lst true (some 8) (List.map (eA8 (D.int .u16)) l22))))) (n' := 1) (mz (e := (eA8 (D.int .u16))) (v' := x19) hl22 rfl rfl rfl rfl rfl) rfl rfl ?_
     exact bX.nil' ⟨by decide, nm [0] ⟨.le (id := 0) ((jQ hl20).symm.trans (jQ hl22).symm) (show 0 < 1 by decide), .d _, .d _, .d _, .d _, .d _, trivial⟩ ⟨⟨show 0 < 1 by decide, _, rfl, .lst _ _ _⟩, trivial⟩⟩
    have hh := ar h
    subst hh
    refine bT ⟨tab [(0, .loc 0 0 l22.length), (1, vi a1), (2, vi a2), (3, .d (.func fn_a3 cap_a3)), (8, vi i2), (9, vi (IntKind.i64.wrap (i9 - 1)))], ac [(0, .lst true (some 8) (List.map (eA8 (D.int .u16)) l22))], 1⟩ ?_ ?_
    ·
     iterate 3 refine q1 _ ?_
     exact nR [0]
    exact And.intro rfl rfl
   ·
    replace h := aP hc17 h
    refine aT (t := y15) rfl hc17 ?_
    have hh := ar h
    subst hh
    refine aX (s0 := ⟨tab [(0, .loc 0 0 l8.length), (1, vi a1), (2, vi a2), (3, .d (.func fn_a3 cap_a3)), (8, vi i2)], ac [(0, .lst true (some 8) (List.map (eA8 (D.int .u16)) l8))], 1⟩) (nr [0]) ?_
    refine cn ?_
    exact And.intro rfl rfl
  have hh := ar h
  subst hh
  refine bT ⟨tab [(0, .loc 0 0 z23.length), (1, vi a1), (2, vi a2), (3, .d (.func fn_a3 cap_a3)), (8, vi (i2 + 1))], ac [(0, .lst true (some 8) (List.map (eA8 (D.int .u16)) z23))], 1⟩ ?_ ?_
  ·
   refine q1 _ ?_
   refine step (v := vi (i2 + 1)) (cC (cD hinv5 hgo4 hB3) rfl rfl) ?_
   refine q1 _ ?_
   exact nR [0]
  exact And.intro rfl rfl
 ·
  rintro i2 l1 hinv5 hgo4
  show aK _ _ _ _ _ ⟨tab [(0, .loc 0 0 l1.length), (1, vi a1), (2, vi a2), (3, .d (.func fn_a3 cap_a3)), (8, vi i2)], ac [(0, .lst true (some 8) (List.map (eA8 (D.int .u16)) l1))], 1⟩
  have hc6 : ¬ (decide (i2 < a2) = true) := fun hq => hgo4 (of_decide_eq_true hq)
  refine aF ?_
  refine al ⟨tab [(0, .loc 0 0 l1.length), (1, vi a1), (2, vi a2), (3, .d (.func fn_a3 cap_a3)), (8, vi i2), (14, vb (decide (i2 < a2)))], ac [(0, .lst true (some 8) (List.map (eA8 (D.int .u16)) l1))], 1⟩ ?_ ?_
  ·
   iterate 3 refine q1 _ ?_
   exact nR [0]
  refine aT (t := decide (i2 < a2)) rfl hc6 ?_
  refine aX (s0 := ⟨tab [], ac [(0, .lst true (some 8) (List.map (eA8 (D.int .u16)) l1))], 1⟩) (nr [0]) ?_
  refine cn ?_
  exact And.intro rfl rfl
 have hh := ar h
 subst hh
 exact ⟨.inl rfl, _, rfl, rfl, ct.sub ⟨rfl, trivial⟩, rfl⟩
theorem uC {a0 : (List (A8 Int))} {a1 : Int} {a2 : Int} {a3 : Int} {a4 : ((A8 Int) → (A8 Int) → Option Int)} {g_a4 : D} (hf_a4 : jP Try.prog g_a4 (eA8 (D.int .u16)) (eA8 (D.int .u16)) (D.int .i64) a4) {r : (List (A8 Int))} (h : ka a0 a1 a2 a3 a4 = some r) : bO Try.prog 121 [.loc 0 0 a0.length, vi a1, vi a2, vi a3, .d g_a4] (ac [(0, .lst true (some 8) (List.map (eA8 (D.int .u16)) a0))]) 1 (.d (.tup [])) (ac [(0, .lst true (some 8) (List.map (eA8 (D.int .u16)) r))]) 1 := by
 obtain ⟨fn_a4, cap_a4, rfl, hc_a4⟩ := hf_a4
 refine bO.introN (bl := [(0, .lst true (some 8) (List.map (eA8 (D.int .u16)) a0))]) (bl' := [(0, .lst true (some 8) (List.map (eA8 (D.int .u16)) r))]) sH (show 5 ≤ 148 by decide) rfl ?_
 refine aX (s0 := ⟨tab [(0, .loc 0 0 a0.length), (1, vi a1), (2, vi a2), (3, vi a3), (4, .d (.func fn_a4 cap_a4))], ac [(0, .lst true (some 8) (List.map (eA8 (D.int .u16)) a0))], 1⟩) (nr [0]) ?_
 refine al ⟨tab [(0, .loc 0 0 a0.length), (1, vi a1), (2, vi a2), (3, vi a3), (4, .d (.func fn_a4 cap_a4)), (10, vb true)], ac [(0, .lst true (some 8) (List.map (eA8 (D.int .u16)) a0))], 1⟩ ?_ ?_
 ·
  refine q1 _ ?_
  exact nR [0]
 refine al ⟨tab [(0, .loc 0 0 a0.length), (1, vi a1), (2, vi a2), (3, vi a3), (4, .d (.func fn_a4 cap_a4)), (10, vb true), (11, vb true)], ac [(0, .lst true (some 8) (List.map (eA8 (D.int .u16)) a0))], 1⟩ ?_ ?_
 ·
  refine q1 _ ?_
  exact nR [0]
 obtain ⟨q7, hl, h⟩ := aw h
 refine bz ?_
 refine qk (fun (qq : Unit) => ⟨tab [(0, .loc 0 0 a0.length), (1, vi a1), (2, vi a2), (3, vi a3), (4, .d (.func fn_a4 cap_a4)), (10, vb true), (11, vb true)], ac [(0, .lst true (some 8) (List.map (eA8 (D.int .u16)) a0))], 1⟩) 0 (fun (qq : Unit) => ⟨tab [], ac [(0, .lst true (some 8) (List.map (eA8 (D.int .u16)) a0))], 1⟩) (r := r) hl ?_ ?_ ?_
 ·
  rintro ⟨⟩ xr1 h
  show aK _ _ _ _ _ ⟨tab [(0, .loc 0 0 a0.length), (1, vi a1), (2, vi a2), (3, vi a3), (4, .d (.func fn_a4 cap_a4)), (10, vb true), (11, vb true)], ac [(0, .lst true (some 8) (List.map (eA8 (D.int .u16)) a0))], 1⟩
  refine bz ?_
  refine al ⟨tab [(0, .loc 0 0 a0.length), (1, vi a1), (2, vi a2), (3, vi a3), (4, .d (.func fn_a4 cap_a4)), (10, vb true), (11, vb true), (12, vi (IntKind.i64.wrap (a2 - a1)))], ac [(0, .lst true (some 8) (List.map (eA8 (D.int .u16)) a0))], 1⟩ ?_ ?_
  ·
   iterate 4 refine q1 _ ?_
   exact nR [0]
  refine aF ?_
  refine al ⟨tab [(0, .loc 0 0 a0.length), (1, vi a1), (2, vi a2), (3, vi a3), (4, .d (.func fn_a4 cap_a4)), (10, vb true), (11, vb true), (12, vi (IntKind.i64.wrap (a2 - a1))), (25, vb (decide ((IntKind.i64.wrap (a2 - a1)) ≤ 12)))], ac [(0, .lst true (some 8) (List.map (eA8 (D.int .u16)) a0))], 1⟩ ?_ ?_
  ·
   iterate 2 refine q1 _ ?_
   exact nR [0]
  by_cases hc2 : decide ((IntKind.i64.wrap (a2 - a1)) ≤ 12) = true
  ·
   replace h := aO hc2 h
   refine aU (t := decide ((IntKind.i64.wrap (a2 - a1)) ≤ 12)) rfl hc2 ?_
   obtain ⟨r3, hr3, h⟩ := aw h
   refine al ⟨tab [], ac [(0, .lst true (some 8) (List.map (eA8 (D.int .u16)) r3))], 1⟩ ?_ ?_
   ·
    iterate 4 refine q1 _ ?_
    refine eB (v := .d (.tup [])) (σ' := (ak (ak (ac [(0, .lst true (some 8) (List.map (eA8 (D.int .u16)) a0))]) 0 none) 0 (some (.lst true (some 8) (List.map (eA8 (D.int .u16)) r3))))) (n' := 1) (eC [0] (uB ⟨_, _, rfl, hc_a4⟩ hr3) (show 1 ≤ 1 by decide) (by decide) (show ∀ i ∈ [0], i < 1 by decide) (c4 (show 0 < 1 by decide) dG) (aY.c (.lc 0) (aY.c (.d _) (aY.c (.d _) (aY.c (.d _) aY.nil0)))) (SN.c (show 0 < 1 by decide) rfl (.lst _ _ _) SN.nil0)) (show 1 ≤ 1 by decide) ?_
    exact nR [0]
   obtain ⟨r4, kr4, hr⟩ := co (o := some r3) (g := Br.ret) h
   subst hr
   have h := kr4
   have hh := ar h
   subst hh
   refine aN ?_
   refine And.intro (fun hn => nomatch hn) ?_
   intro hq
   have hq := hq.symm
   subst hq
   exact ⟨.inr rfl, _, rfl, rfl, ct.sub ⟨rfl, trivial⟩, rfl⟩
  ·
   replace h := aP hc2 h
   refine aT (t := decide ((IntKind.i64.wrap (a2 - a1)) ≤ 12)) rfl hc2 ?_
   refine bd ?_
   refine aF ?_
   refine al ⟨tab [(0, .loc 0 0 a0.length), (1, vi a1), (2, vi a2), (3, vi a3), (4, .d (.func fn_a4 cap_a4)), (10, vb true), (11, vb true), (12, vi (IntKind.i64.wrap (a2 - a1))), (32, vb (a3 == 0))], ac [(0, .lst true (some 8) (List.map (eA8 (D.int .u16)) a0))], 1⟩ ?_ ?_
   ·
    iterate 2 refine q1 _ ?_
    exact nR [0]
   by_cases hc4 : (a3 == 0) = true
   ·
    replace h := aO hc4 h
    refine aU (t := (a3 == 0)) rfl hc4 ?_
    cases h
   ·
    replace h := aP hc4 h
    refine aT (t := (a3 == 0)) rfl hc4 ?_
    refine bd ?_
    obtain ⟨q6, hv, h⟩ := aw h
    obtain ⟨⟩ := q6
    refine eO ⟨tab [(0, .loc 0 0 a0.length), (1, vi a1), (2, vi a2), (3, vi a3), (4, .d (.func fn_a4 cap_a4)), (10, vb true), (11, vb true), (12, vi (IntKind.i64.wrap (a2 - a1)))], ac [(0, .lst true (some 8) (List.map (eA8 (D.int .u16)) a0))], 1⟩ ?_ ?_
    ·
     replace h := hv
     refine al ⟨tab [(0, .loc 0 0 a0.length), (1, vi a1), (2, vi a2), (3, vi a3), (4, .d (.func fn_a4 cap_a4)), (10, vb true), (11, vb true), (12, vi (IntKind.i64.wrap (a2 - a1))), (39, vb (!true))], ac [(0, .lst true (some 8) (List.map (eA8 (D.int .u16)) a0))], 1⟩ ?_ ?_
     ·
      iterate 2 refine q1 _ ?_
      exact nR [0]
     by_cases hc5 : (!true) = true
     ·
      replace h := aO hc5 h
      refine aU (t := (!true)) rfl hc5 ?_
      cases h
     ·
      replace h := aP hc5 h
      refine aT (t := (!true)) rfl hc5 ?_
      refine aX (s0 := ⟨tab [(0, .loc 0 0 a0.length), (1, vi a1), (2, vi a2), (3, vi a3), (4, .d (.func fn_a4 cap_a4)), (10, vb true), (11, vb true), (12, vi (IntKind.i64.wrap (a2 - a1)))], ac [(0, .lst true (some 8) (List.map (eA8 (D.int .u16)) a0))], 1⟩) (nr [0]) ?_
      refine bd ?_
      exact And.intro rfl rfl
    cases h
 ·
  intro r' hq
  subst hq
  exact ar h
 rintro ⟨⟩ rfl
 have hh := ar h
 subst hh
 exact ⟨.inl rfl, _, rfl, rfl, ct.sub ⟨rfl, trivial⟩, rfl⟩
theorem uD {a0 : (List (A8 Int))} {a1 : ((A8 Int) → (A8 Int) → Option Int)} {g_a1 : D} (hf_a1 : jP Try.prog g_a1 (eA8 (D.int .u16)) (eA8 (D.int .u16)) (D.int .i64) a1) {r : (List (A8 Int))} (h : iH a0 a1 = some r) : bO Try.prog 111 [.loc 0 0 a0.length, .d g_a1] (ac [(0, .lst true (some 8) (List.map (eA8 (D.int .u16)) a0))]) 1 (.d (.tup [])) (ac [(0, .lst true (some 8) (List.map (eA8 (D.int .u16)) r))]) 1 := by
 obtain ⟨fn_a1, cap_a1, rfl, hc_a1⟩ := hf_a1
 refine bO.introN (bl := [(0, .lst true (some 8) (List.map (eA8 (D.int .u16)) a0))]) (bl' := [(0, .lst true (some 8) (List.map (eA8 (D.int .u16)) r))]) sJ (show 2 ≤ 14 by decide) rfl ?_
 refine aX (s0 := ⟨tab [(0, .loc 0 0 a0.length), (1, .d (.func fn_a1 cap_a1))], ac [(0, .lst true (some 8) (List.map (eA8 (D.int .u16)) a0))], 1⟩) (nr [0]) ?_
 refine al ⟨tab [(0, .loc 0 0 a0.length), (1, .d (.func fn_a1 cap_a1)), (4, vi (a0.length : Int))], ac [(0, .lst true (some 8) (List.map (eA8 (D.int .u16)) a0))], 1⟩ ?_ ?_
 ·
  iterate 3 refine q1 _ ?_
  exact nR [0]
 obtain ⟨r1, hr1, h⟩ := aw h
 obtain ⟨r2, hr2, h⟩ := aw h
 have hh := ar h
 subst hh
 refine bT ⟨tab [], ac [(0, .lst true (some 8) (List.map (eA8 (D.int .u16)) r2))], 1⟩ ?_ ?_
 ·
  iterate 4 refine q1 _ ?_
  refine bx (r := .int .i64 r1) (aI aS.nil') (uA hr1) ?_
  refine q1 _ ?_
  refine eB (v := .d (.tup [])) (σ' := (ak (ak (ac [(0, .lst true (some 8) (List.map (eA8 (D.int .u16)) a0))]) 0 none) 0 (some (.lst true (some 8) (List.map (eA8 (D.int .u16)) r2))))) (n' := 1) (eC [0] (uC ⟨_, _, rfl, hc_a1⟩ hr2) (show 1 ≤ 1 by decide) (by decide) (show ∀ i ∈ [0], i < 1 by decide) (c4 (show 0 < 1 by decide) dG) (aY.c (.lc 0) (aY.c (.d _) (aY.c (.d _) (aY.c (.d _) (aY.c (.d _) aY.nil0))))) (SN.c (show 0 < 1 by decide) rfl (.lst _ _ _) SN.nil0)) (show 1 ≤ 1 by decide) ?_
  exact nR [0]
 exact ⟨.inl rfl, _, rfl, rfl, ct.sub ⟨rfl, trivial⟩, rfl⟩
theorem n7 {a0 : Int} {r : Bool} (h : kc a0 = some r) : PCall Try.prog 136 [.int .u16 a0] (.bool r) := by
 refine PCall.introN sL (show 1 ≤ 6 by decide) ?_
 refine aX (s0 := ⟨tab [(0, vh a0)], ac [], 0⟩) (nr []) ?_
 refine al ⟨tab [(0, vh a0)], ac [], 0⟩ ?_ ?_
 ·
  refine q1 _ ?_
  exact nR []
 refine al ⟨tab [(2, vb (a0 != a0))], ac [], 0⟩ ?_ ?_
 ·
  iterate 4 refine q1 _ ?_
  exact nR []
 have hh := ar h
 subst hh
 refine aN ?_
 show FQ _ _ _ _
 exact bn (.inr rfl) (be (v := vb (a0 != a0)) rfl rfl) (RV.d trivial)
theorem uE {a0 : Int} {a1 : Int} {r : Int} (h : m8 a0 a1 = some r) : PCall Try.prog 123 [.int .u16 a0, .int .u16 a1] (.int .i64 r) := by
 refine PCall.introN sN (show 2 ≤ 20 by decide) ?_
 refine aX (s0 := ⟨tab [(0, vh a0), (1, vh a1)], ac [], 0⟩) (nr []) ?_
 refine al ⟨tab [(0, vh a0), (1, vh a1)], ac [], 0⟩ ?_ ?_
 ·
  refine q1 _ ?_
  exact nR []
 obtain ⟨r1, hr1, h⟩ := aw h
 refine al ⟨tab [(0, vh a0), (1, vh a1), (5, vb r1)], ac [], 0⟩ ?_ ?_
 ·
  refine q1 _ ?_
  refine bx (r := .bool r1) (aI aS.nil') (n7 hr1) ?_
  refine q1 _ ?_
  exact nR []
 obtain ⟨r2, hr2, h⟩ := aw h
 refine al ⟨tab [(0, vh a0), (1, vh a1), (5, vb r1), (6, vb r2)], ac [], 0⟩ ?_ ?_
 ·
  refine q1 _ ?_
  refine bx (r := .bool r2) (aI aS.nil') (n7 hr2) ?_
  refine q1 _ ?_
  exact nR []
 refine aF ?_
 refine al ⟨tab [(0, vh a0), (1, vh a1), (6, vb r2), (11, vb r1)], ac [], 0⟩ ?_ ?_
 ·
  refine q1 _ ?_
  exact nR []
 by_cases hc3 : r1 = true
 ·
  replace h := aO hc3 h
  refine aU (t := r1) rfl hc3 ?_
  refine aF ?_
  refine al ⟨tab [(12, vb r2)], ac [], 0⟩ ?_ ?_
  ·
   refine q1 _ ?_
   exact nR []
  by_cases hc4 : r2 = true
  ·
   replace h := aO hc4 h
   refine aU (t := r2) rfl hc4 ?_
   refine al ⟨tab [(4, vi 0)], ac [], 0⟩ ?_ ?_
   ·
    refine q1 _ ?_
    exact nR []
   have hh := ar h
   subst hh
   refine aN ?_
   show FQ _ _ _ _
   exact bn (.inr rfl) (be (v := vi 0) rfl rfl) (RV.d trivial)
  ·
   replace h := aP hc4 h
   refine aT (t := r2) rfl hc4 ?_
   refine bd ?_
   refine al ⟨tab [(4, vi (-1))], ac [], 0⟩ ?_ ?_
   ·
    refine q1 _ ?_
    exact nR []
   have hh := ar h
   subst hh
   refine aN ?_
   show FQ _ _ _ _
   exact bn (.inr rfl) (be (v := vi (-1)) rfl rfl) (RV.d trivial)
 ·
  replace h := aP hc3 h
  refine aT (t := r1) rfl hc3 ?_
  refine bd ?_
  refine aF ?_
  refine al ⟨tab [(0, vh a0), (1, vh a1), (13, vb r2)], ac [], 0⟩ ?_ ?_
  ·
   refine q1 _ ?_
   exact nR []
  by_cases hc5 : r2 = true
  ·
   replace h := aO hc5 h
   refine aU (t := r2) rfl hc5 ?_
   refine al ⟨tab [(4, vi 1)], ac [], 0⟩ ?_ ?_
   ·
    refine q1 _ ?_
    exact nR []
   have hh := ar h
   subst hh
   refine aN ?_
   show FQ _ _ _ _
   exact bn (.inr rfl) (be (v := vi 1) rfl rfl) (RV.d trivial)
  ·
   replace h := aP hc5 h
   refine aT (t := r2) rfl hc5 ?_
   refine bd ?_
   refine aF ?_
   refine al ⟨tab [(0, vh a0), (1, vh a1), (16, vb (decide (a0 < a1)))], ac [], 0⟩ ?_ ?_
   ·
    iterate 3 refine q1 _ ?_
    exact nR []
   by_cases hc6 : decide (a0 < a1) = true
   ·
    replace h := aO hc6 h
    refine aU (t := decide (a0 < a1)) rfl hc6 ?_
    refine al ⟨tab [(4, vi (-1))], ac [], 0⟩ ?_ ?_
    ·
     refine q1 _ ?_
     exact nR []
    have hh := ar h
    subst hh
    refine aN ?_
    show FQ _ _ _ _
    exact bn (.inr rfl) (be (v := vi (-1)) rfl rfl) (RV.d trivial)
   ·
    replace h := aP hc6 h
    refine aT (t := decide (a0 < a1)) rfl hc6 ?_
    refine bd ?_
    refine aF ?_
    refine al ⟨tab [(19, vb (decide (a0 > a1)))], ac [], 0⟩ ?_ ?_
    ·
     iterate 3 refine q1 _ ?_
     exact nR []
    by_cases hc7 : decide (a0 > a1) = true
    ·
     replace h := aO hc7 h
     refine aU (t := decide (a0 > a1)) rfl hc7 ?_
     refine al ⟨tab [(4, vi 1)], ac [], 0⟩ ?_ ?_
     ·
      refine q1 _ ?_
      exact nR []
     have hh := ar h
     subst hh
     refine aN ?_
     show FQ _ _ _ _
     exact bn (.inr rfl) (be (v := vi 1) rfl rfl) (RV.d trivial)
    ·
     replace h := aP hc7 h
     refine aT (t := decide (a0 > a1)) rfl hc7 ?_
     refine bd ?_
     refine al ⟨tab [(4, vi 0)], ac [], 0⟩ ?_ ?_
     ·
      refine q1 _ ?_
      exact nR []
     have hh := ar h
     subst hh
     refine aN ?_
     show FQ _ _ _ _
     exact bn (.inr rfl) (be (v := vi 0) rfl rfl) (RV.d trivial)
theorem uF {a0 : (A8 Int)} {a1 : (A8 Int)} {r : Int} (h : m9 a0 a1 = some r) : PCall Try.prog 112 [eA8 (D.int .u16) a0, eA8 (D.int .u16) a1] (.int .i64 r) := by
 refine PCall.introN sQ (show 2 ≤ 21 by decide) ?_
 refine aX (s0 := ⟨tab [(0, .d (eA8 (D.int .u16) a0)), (1, .d (eA8 (D.int .u16) a1))], ac [], 0⟩) (nr []) ?_
 refine al ⟨tab [(2, .d (.cptr (some 8) (eA8 (D.int .u16) a0) 0)), (3, .d (.cptr (some 8) (eA8 (D.int .u16) a1) 0))], ac [], 0⟩ ?_ ?_
 ·
  iterate 3 refine q1 _ ?_
  exact nR []
 refine aF ?_
 refine al ⟨tab [(2, .d (.cptr (some 8) (eA8 (D.int .u16) a0) 0)), (3, .d (.cptr (some 8) (eA8 (D.int .u16) a1) 0)), (7, vi 0)], ac [], 0⟩ ?_ ?_
 ·
  refine q1 _ ?_
  exact nR []
 obtain ⟨q11, hl, h⟩ := aw h
 refine bz ?_
 refine df (cA 8) (fun (i1 : Int) (qq : Unit) => ⟨tab [(2, .d (.cptr (some 8) (eA8 (D.int .u16) a0) 0)), (3, .d (.cptr (some 8) (eA8 (D.int .u16) a1) 0)), (7, vi i1)], ac [], 0⟩) 0 (fun (qq : Unit) => ⟨tab [], ac [], 0⟩) bF cB (r := r) hl (by unfold bF; omega) ?_ ?_ ?_ ?_
 ·
  rintro i1 ⟨⟩ xr6 hinv4 hgo3 h
  show aK _ _ _ _ _ ⟨tab [(2, .d (.cptr (some 8) (eA8 (D.int .u16) a0) 0)), (3, .d (.cptr (some 8) (eA8 (D.int .u16) a1) 0)), (7, vi i1)], ac [], 0⟩
  have hc5 : decide (i1 < 8) = true := decide_eq_true hgo3
  refine al ⟨tab [(2, .d (.cptr (some 8) (eA8 (D.int .u16) a0) 0)), (3, .d (.cptr (some 8) (eA8 (D.int .u16) a1) 0)), (7, vi i1), (8, vb (decide (i1 < 8)))], ac [], 0⟩ ?_ ?_
  ·
   refine q1 _ ?_
   exact nR []
  refine aF ?_
  refine aU (t := decide (i1 < 8)) rfl hc5 ?_
  refine bd ?_
  refine aF ?_
  refine bz ?_
  refine al ⟨tab [(2, .d (.cptr (some 8) (eA8 (D.int .u16) a0) 0)), (3, .d (.cptr (some 8) (eA8 (D.int .u16) a1) 0)), (5, vi i1), (7, vi i1)], ac [], 0⟩ ?_ ?_
  ·
   iterate 2 refine q1 _ ?_
   exact nR []
  obtain ⟨x7, hx7, h⟩ := aw h
  obtain ⟨x8, hx8, h⟩ := aw h
  obtain ⟨r9, hr9, h⟩ := aw h
  refine al ⟨tab [(2, .d (.cptr (some 8) (eA8 (D.int .u16) a0) 0)), (3, .d (.cptr (some 8) (eA8 (D.int .u16) a1) 0)), (6, vi r9), (7, vi i1)], ac [], 0⟩ ?_ ?_
  ·
   refine q1 _ ?_
   refine step (v := .d (.cptr (some 8) (eA8 (D.int .u16) a0) (0 + i1.toNat * 1))) (jZ (xs := a0.l) hx7 rfl rfl rfl) ?_
   refine step (v := vh x7) (jW rfl (jU (e := (D.int .u16)) (xs := a0.l) (pre := []) (post := []) hx7 rfl (by decide))) ?_
   refine q1 _ ?_
   refine step (v := .d (.cptr (some 8) (eA8 (D.int .u16) a1) (0 + i1.toNat * 1))) (jZ (xs := a1.l) hx8 rfl rfl rfl) ?_
   refine step (v := vh x8) (jW rfl (jU (e := (D.int .u16)) (xs := a1.l) (pre := []) (post := []) hx8 rfl (by decide))) ?_
   refine bx (r := .int .i64 r9) (aI (aI aS.nil')) (uE hr9) ?_
   refine q1 _ ?_
   exact nR []
  refine al ⟨tab [(2, .d (.cptr (some 8) (eA8 (D.int .u16) a0) 0)), (3, .d (.cptr (some 8) (eA8 (D.int .u16) a1) 0)), (6, vi r9), (7, vi i1), (18, vb (r9 != 0))], ac [], 0⟩ ?_ ?_
  ·
   iterate 2 refine q1 _ ?_
   exact nR []
  by_cases hc10 : (r9 != 0) = true
  ·
   replace h := aO hc10 h
   refine aU (t := (r9 != 0)) rfl hc10 ?_
   refine al ⟨tab [(4, vi r9)], ac [], 0⟩ ?_ ?_
   ·
    iterate 2 refine q1 _ ?_
    exact nR []
   obtain ⟨r11, kr11, hr⟩ := co (o := some r9) (g := Br.ret) h
   subst hr
   have h := kr11
   have hh := ar h
   subst hh
   refine aN ?_
   refine And.intro (fun hn => nomatch hn) ?_
   intro hq
   have hq := hq.symm
   subst hq
   show FQ _ _ _ _
   exact bn (.inr rfl) (be (v := vi r9) rfl rfl) (RV.d trivial)
  ·
   replace h := aP hc10 h
   refine aT (t := (r9 != 0)) rfl hc10 ?_
   refine bd ?_
   have hh := ar h
   subst hh
   refine bT ⟨tab [(2, .d (.cptr (some 8) (eA8 (D.int .u16) a0) 0)), (3, .d (.cptr (some 8) (eA8 (D.int .u16) a1) 0)), (7, vi (i1 + 1))], ac [], 0⟩ ?_ ?_
   ·
    refine step (v := vi (i1 + 1)) (cC (cD hinv4 hgo3 (by decide)) rfl rfl) ?_
    refine q1 _ ?_
    exact nR []
   exact And.intro rfl rfl
 ·
  rintro i1 ⟨⟩ hinv4 hgo3
  show aK _ _ _ _ _ ⟨tab [(2, .d (.cptr (some 8) (eA8 (D.int .u16) a0) 0)), (3, .d (.cptr (some 8) (eA8 (D.int .u16) a1) 0)), (7, vi i1)], ac [], 0⟩
  have hc5 : ¬ (decide (i1 < 8) = true) := fun hq => hgo3 (of_decide_eq_true hq)
  refine al ⟨tab [(2, .d (.cptr (some 8) (eA8 (D.int .u16) a0) 0)), (3, .d (.cptr (some 8) (eA8 (D.int .u16) a1) 0)), (7, vi i1), (8, vb (decide (i1 < 8)))], ac [], 0⟩ ?_ ?_
  ·
   refine q1 _ ?_
   exact nR []
  refine aF ?_
  refine aT (t := decide (i1 < 8)) rfl hc5 ?_
  refine aX (s0 := ⟨tab [], ac [], 0⟩) (nr []) ?_
  refine cn ?_
  exact And.intro rfl rfl
 ·
  intro r' hq
  subst hq
  exact ar h
 rintro ⟨⟩ rfl
 refine al ⟨tab [(4, vi 0)], ac [], 0⟩ ?_ ?_
 ·
  refine q1 _ ?_
  exact nR []
 have hh := ar h
 subst hh
 refine aN ?_
 show FQ _ _ _ _
 exact bn (.inr rfl) (be (v := vi 0) rfl rfl) (RV.d trivial)
theorem uG {a0 : (List (A8 Int))} {r : (List (A8 Int))} (h : nb a0 = some r) : bO Try.prog 113 [.loc 0 0 a0.length] (ac [(0, .lst true (some 8) (List.map (eA8 (D.int .u16)) a0))]) 1 (.loc 0 0 r.length) (ac [(0, .lst true (some 8) (List.map (eA8 (D.int .u16)) r))]) 1 := by
 refine bO.introN (bl := [(0, .lst true (some 8) (List.map (eA8 (D.int .u16)) a0))]) (bl' := [(0, .lst true (some 8) (List.map (eA8 (D.int .u16)) r))]) sU (show 1 ≤ 61 by decide) rfl ?_
 refine aX (s0 := ⟨tab [(0, .loc 0 0 a0.length)], ac [(0, .lst true (some 8) (List.map (eA8 (D.int .u16)) a0))], 1⟩) (nr [0]) ?_
 refine al ⟨tab [(0, .loc 0 0 a0.length)], ac [(0, .lst true (some 8) (List.map (eA8 (D.int .u16)) a0))], 1⟩ ?_ ?_
 ·
  refine q1 _ ?_
  exact nR [0]
 refine aF ?_
 refine al ⟨tab [(0, .loc 0 0 a0.length), (8, vb (decide ((a0.length : Int) < 2)))], ac [(0, .lst true (some 8) (List.map (eA8 (D.int .u16)) a0))], 1⟩ ?_ ?_
 ·
  iterate 3 refine q1 _ ?_
  exact nR [0]
 by_cases hc1 : decide ((a0.length : Int) < 2) = true
 ·
  replace h := aO hc1 h
  refine aU (t := decide ((a0.length : Int) < 2)) rfl hc1 ?_
  refine al ⟨tab [(2, .loc 0 0 a0.length)], ac [(0, .lst true (some 8) (List.map (eA8 (D.int .u16)) a0))], 1⟩ ?_ ?_
  ·
   iterate 2 refine q1 _ ?_
   exact nR [0]
  have hh := ar h
  subst hh
  refine aN ?_
  exact ⟨.inr rfl, _, rfl, rfl, ct.sub ⟨rfl, trivial⟩, rfl⟩
 ·
  replace h := aP hc1 h
  refine aT (t := decide ((a0.length : Int) < 2)) rfl hc1 ?_
  refine bd ?_
  refine aF ?_
  refine al ⟨tab [(0, .loc 0 0 a0.length), (3, vi 1)], ac [(0, .lst true (some 8) (List.map (eA8 (D.int .u16)) a0))], 1⟩ ?_ ?_
  ·
   refine q1 _ ?_
   exact nR [0]
  obtain ⟨q15, hl, h⟩ := aw h
  refine bz ?_
  refine df (cA (a0.length : Int)) (fun (i2 : Int) (qq : Unit) => ⟨tab [(0, .loc 0 0 a0.length), (3, vi i2)], ac [(0, .lst true (some 8) (List.map (eA8 (D.int .u16)) a0))], 1⟩) 0 (fun (qq : Unit) => ⟨tab [(0, .loc 0 0 a0.length)], ac [(0, .lst true (some 8) (List.map (eA8 (D.int .u16)) a0))], 1⟩) bF cB (r := r) hl (by unfold bF; omega) ?_ ?_ ?_ ?_
  ·
   rintro i2 ⟨⟩ xr7 hinv5 hgo4 h
   show aK _ _ _ _ _ ⟨tab [(0, .loc 0 0 a0.length), (3, vi i2)], ac [(0, .lst true (some 8) (List.map (eA8 (D.int .u16)) a0))], 1⟩
   have hc6 : decide (i2 < (a0.length : Int)) = true := decide_eq_true hgo4
   refine aF ?_
   refine al ⟨tab [(0, .loc 0 0 a0.length), (3, vi i2), (12, vi (a0.length : Int)), (13, vb (decide (i2 < (a0.length : Int))))], ac [(0, .lst true (some 8) (List.map (eA8 (D.int .u16)) a0))], 1⟩ ?_ ?_
   ·
    iterate 4 refine q1 _ ?_
    exact nR [0]
   refine cz 12 rfl fun hB3 => ?_
   refine aU (t := decide (i2 < (a0.length : Int))) rfl hc6 ?_
   refine bd ?_
   refine aF ?_
   refine bz ?_
   obtain ⟨x8, hx8, h⟩ := aw h
   obtain ⟨x9, hx9, h⟩ := aw h
   refine al ⟨tab [(0, .loc 0 0 a0.length), (3, vi i2), (25, vb (x8 == x9))], ac [(0, .lst true (some 8) (List.map (eA8 (D.int .u16)) a0))], 1⟩ ?_ ?_
   ·
    iterate 2 refine q1 _ ?_
    refine step (v := .ptr 0 i2.toNat 0) (fo (xs := a0) (e := (eA8 (D.int .u16))) hx8 rfl rfl rfl rfl) ?_
    refine step (v := .d (eA8 (D.int .u16) x8)) (gi (xs := a0) (e := (eA8 (D.int .u16))) hx8 rfl rfl rfl) ?_
    iterate 3 refine q1 _ ?_
    refine step (v := .ptr 0 (IntKind.i64.wrap (i2 - 1)).toNat 0) (fo (xs := a0) (e := (eA8 (D.int .u16))) hx9 rfl rfl rfl rfl) ?_
    refine step (v := .d (eA8 (D.int .u16) x9)) (gi (xs := a0) (e := (eA8 (D.int .u16))) hx9 rfl rfl rfl) ?_
    refine step (v := vb (x8 == x9)) (dD (neg := false) rfl rfl (fS x8 x9)) ?_
    exact nR [0]
   by_cases hc10 : (x8 == x9) = true
   ·
    replace h := aO hc10 h
    refine aU (t := (x8 == x9)) rfl hc10 ?_
    obtain ⟨l11, hl11, h⟩ := aw h
    refine al ⟨tab [(0, .loc 0 0 a0.length), (3, vi i2), (4, .loc 0 i2.toNat ((a0.length : Int).toNat - i2.toNat))], ac [(0, .lst true (some 8) (List.map (eA8 (D.int .u16)) a0))], 1⟩ ?_ ?_
    ·
     iterate 2 refine q1 _ ?_
     refine step (v := .loc 0 i2.toNat ((a0.length : Int).toNat - i2.toNat)) (mA (xs := a0) (e := (eA8 (D.int .u16))) hl11 rfl rfl rfl ⟨_, rfl⟩ rfl) ?_
     refine q1 _ ?_
     exact nR [0]
    refine aF ?_
    refine al ⟨tab [(0, .loc 0 0 a0.length), (3, vi i2), (4, .loc 0 i2.toNat ((a0.length : Int).toNat - i2.toNat)), (5, vi 1)], ac [(0, .lst true (some 8) (List.map (eA8 (D.int .u16)) a0))], 1⟩ ?_ ?_
    ·
     refine q1 _ ?_
     exact nR [0]
    obtain ⟨q14, hl, h⟩ := aw h
    obtain ⟨⟩ := q14
    refine bz ?_
    refine mx (fun (qq : Unit) => ⟨tab [(0, .loc 0 0 a0.length), (3, vi i2), (4, .loc 0 i2.toNat ((a0.length : Int).toNat - i2.toNat)), (5, vi 1)], ac [(0, .lst true (some 8) (List.map (eA8 (D.int .u16)) a0))], 1⟩) 2 (fun (qq : Unit) => ⟨tab [(0, .loc 0 0 a0.length), (3, vi i2)], ac [(0, .lst true (some 8) (List.map (eA8 (D.int .u16)) a0))], 1⟩) hl ?_ ?_
    ·
     rintro ⟨⟩ xr12 h
     show aK _ _ _ _ _ ⟨tab [(0, .loc 0 0 a0.length), (3, vi i2), (4, .loc 0 i2.toNat ((a0.length : Int).toNat - i2.toNat)), (5, vi 1)], ac [(0, .lst true (some 8) (List.map (eA8 (D.int .u16)) a0))], 1⟩
     refine aF ?_
     refine al ⟨tab [(0, .loc 0 0 a0.length), (3, vi i2), (4, .loc 0 i2.toNat ((a0.length : Int).toNat - i2.toNat)), (5, vi 1), (32, vb (decide (1 < (l11.length : Int))))], ac [(0, .lst true (some 8) (List.map (eA8 (D.int .u16)) a0))], 1⟩ ?_ ?_
     ·
      iterate 2 refine q1 _ ?_
      refine step (v := vi (l11.length : Int)) (qz (lo := i2) (hi := (a0.length : Int)) rfl hl11) ?_
      refine q1 _ ?_
      exact nR [0]
     by_cases hc13 : decide (1 < (l11.length : Int)) = true
     ·
      replace h := aO hc13 h
      refine aU (t := decide (1 < (l11.length : Int))) rfl hc13 ?_
      refine bd ?_
      cases h
     ·
      replace h := aP hc13 h
      refine aT (t := decide (1 < (l11.length : Int))) rfl hc13 ?_
      have hh := ar h
      subst hh
      refine aX (s0 := ⟨tab [(0, .loc 0 0 a0.length), (3, vi i2)], ac [(0, .lst true (some 8) (List.map (eA8 (D.int .u16)) a0))], 1⟩) (nr [0]) ?_
      refine cn ?_
      exact And.intro rfl rfl
    refine al ⟨tab [(0, .loc 0 0 a0.length), (3, vi i2)], ac [(0, .lst true (some 8) (List.map (eA8 (D.int .u16)) (a0.take i2.toNat)))], 1⟩ ?_ ?_
    ·
     iterate 2 refine q1 _ ?_
     refine step (v := .loc 0 i2.toNat ((a0.length : Int).toNat - i2.toNat)) (mA (xs := a0) (e := (eA8 (D.int .u16))) hl11 rfl rfl rfl ⟨_, rfl⟩ rfl) ?_
     refine step (v := .d (.tup [])) (σ' := (ak (ac [(0, .lst true (some 8) (List.map (eA8 (D.int .u16)) a0))]) 0 (some (.lst true (some 8) (List.map (eA8 (D.int .u16)) (a0.take i2.toNat)))))) (n' := 1) (qr (xs := a0) (e := (eA8 (D.int .u16))) rfl rfl (by have := jT hl11; omega)) ?_
     exact nR [0]
    refine al ⟨tab [(2, .loc 0 0 ((a0.take i2.toNat).length))], ac [(0, .lst true (some 8) (List.map (eA8 (D.int .u16)) (a0.take i2.toNat)))], 1⟩ ?_ ?_
    ·
     iterate 2 refine q1 _ ?_
     refine step (v := .loc 0 0 ((a0.take i2.toNat).length)) (qs (xs := a0) (e := (eA8 (D.int .u16))) hl11 rfl rfl rfl rfl ⟨_, rfl⟩) ?_
     refine q1 _ ?_
     exact nR [0]
    obtain ⟨r14, kr14, hr⟩ := co (o := some (a0.take i2.toNat)) (g := Br.ret) h
    subst hr
    have h := kr14
    have hh := ar h
    subst hh
    refine aN ?_
    refine And.intro (fun hn => nomatch hn) ?_
    intro hq
    have hq := hq.symm
    subst hq
    exact ⟨.inr rfl, _, rfl, rfl, ct.sub ⟨rfl, trivial⟩, rfl⟩
   ·
    replace h := aP hc10 h
    refine aT (t := (x8 == x9)) rfl hc10 ?_
    refine bd ?_
    have hh := ar h
    subst hh
    refine bT ⟨tab [(0, .loc 0 0 a0.length), (3, vi (i2 + 1))], ac [(0, .lst true (some 8) (List.map (eA8 (D.int .u16)) a0))], 1⟩ ?_ ?_
    ·
     refine q1 _ ?_
     refine step (v := vi (i2 + 1)) (cC (cD hinv5 hgo4 hB3) rfl rfl) ?_
     refine q1 _ ?_
     exact nR [0]
    exact And.intro rfl rfl
  ·
   rintro i2 ⟨⟩ hinv5 hgo4
   show aK _ _ _ _ _ ⟨tab [(0, .loc 0 0 a0.length), (3, vi i2)], ac [(0, .lst true (some 8) (List.map (eA8 (D.int .u16)) a0))], 1⟩
   have hc6 : ¬ (decide (i2 < (a0.length : Int)) = true) := fun hq => hgo4 (of_decide_eq_true hq)
   refine aF ?_
   refine al ⟨tab [(0, .loc 0 0 a0.length), (3, vi i2), (13, vb (decide (i2 < (a0.length : Int))))], ac [(0, .lst true (some 8) (List.map (eA8 (D.int .u16)) a0))], 1⟩ ?_ ?_
   ·
    iterate 4 refine q1 _ ?_
    exact nR [0]
   refine aT (t := decide (i2 < (a0.length : Int))) rfl hc6 ?_
   refine aX (s0 := ⟨tab [(0, .loc 0 0 a0.length)], ac [(0, .lst true (some 8) (List.map (eA8 (D.int .u16)) a0))], 1⟩) (nr [0]) ?_
   refine cn ?_
   exact And.intro rfl rfl
  ·
   intro r' hq
   subst hq
   exact ar h
  rintro ⟨⟩ rfl
  refine al ⟨tab [(2, .loc 0 0 a0.length)], ac [(0, .lst true (some 8) (List.map (eA8 (D.int .u16)) a0))], 1⟩ ?_ ?_
  ·
   iterate 2 refine q1 _ ?_
   exact nR [0]
  have hh := ar h
  subst hh
  refine aN ?_
  exact ⟨.inr rfl, _, rfl, rfl, ct.sub ⟨rfl, trivial⟩, rfl⟩
theorem uH {a0 : (List (A8 Int))} {r : (List (A8 Int))} (h : nc a0 = some r) : bO Try.prog 101 [.d (eL (some 8) (eA8 (D.int .u16)) a0)] (ac []) 0 (.loc 0 0 r.length) (ac [(0, .lst true (some 8) (List.map (eA8 (D.int .u16)) r))]) 1 := by
 refine bO.introN (bl := []) (bl' := [(0, .lst true (some 8) (List.map (eA8 (D.int .u16)) r))]) sW (show 1 ≤ 9 by decide) rfl ?_
 refine aX (s0 := ⟨tab [(0, .d (eL (some 8) (eA8 (D.int .u16)) a0))], ac [], 0⟩) (nr []) ?_
 refine al ⟨tab [(0, .d (eL (some 8) (eA8 (D.int .u16)) a0))], ac [], 0⟩ ?_ ?_
 ·
  refine q1 _ ?_
  exact nR []
 obtain ⟨r1, hr1, h⟩ := aw h
 refine al ⟨tab [(0, .loc 0 0 r1.length)], ac [(0, .lst true (some 8) (List.map (eA8 (D.int .u16)) r1))], 1⟩ ?_ ?_
 ·
  refine q1 _ ?_
  refine eB (v := .loc 0 0 r1.length) (σ' := (ak (ac []) 0 (some (.lst true (some 8) (List.map (eA8 (D.int .u16)) r1))))) (n' := 1) (eC [] (iX hr1) (show 0 ≤ 1 by decide) (by decide) (show ∀ i ∈ [], i < 0 by decide) (c4 (show 0 < 1 by decide) dG) (aY.c (.d _) aY.nil0) SN.nil0) (show 0 ≤ 1 by decide) ?_
  refine q1 _ ?_
  exact nR [0]
 obtain ⟨r2, hr2, h⟩ := aw h
 refine al ⟨tab [(0, .loc 0 0 r2.length)], ac [(0, .lst true (some 8) (List.map (eA8 (D.int .u16)) r2))], 1⟩ ?_ ?_
 ·
  refine q1 _ ?_
  refine eB (v := .d (.tup [])) (σ' := (ak (ak (ac [(0, .lst true (some 8) (List.map (eA8 (D.int .u16)) r1))]) 0 none) 0 (some (.lst true (some 8) (List.map (eA8 (D.int .u16)) r2))))) (n' := 1) (eC [0] (uD ⟨112, [], rfl, fun _ _ _ h => uF h⟩ hr2) (show 1 ≤ 1 by decide) (by decide) (show ∀ i ∈ [0], i < 1 by decide) (c4 (show 0 < 1 by decide) dG) (aY.c (.lc 0) (aY.c (.d _) aY.nil0)) (SN.c (show 0 < 1 by decide) rfl (.lst _ _ _) SN.nil0)) (show 1 ≤ 1 by decide) ?_
  exact bh.nil' (nm [0] ⟨.le (id := 0) (rI hr2).symm (show 0 < 1 by decide), trivial⟩ ⟨⟨show 0 < 1 by decide, _, rfl, .lst _ _ _⟩, trivial⟩)
 obtain ⟨r3, hr3, h⟩ := aw h
 refine al ⟨tab [(2, .loc 0 0 r3.length)], ac [(0, .lst true (some 8) (List.map (eA8 (D.int .u16)) r3))], 1⟩ ?_ ?_
 ·
  refine q1 _ ?_
  refine eB (v := .loc 0 0 r3.length) (σ' := (ak (ak (ac [(0, .lst true (some 8) (List.map (eA8 (D.int .u16)) r2))]) 0 none) 0 (some (.lst true (some 8) (List.map (eA8 (D.int .u16)) r3))))) (n' := 1) (eC [0] (uG hr3) (show 1 ≤ 1 by decide) (by decide) (show ∀ i ∈ [0], i < 1 by decide) (c4 (show 0 < 1 by decide) dG) (aY.c (.lc 0) aY.nil0) (SN.c (show 0 < 1 by decide) rfl (.lst _ _ _) SN.nil0)) (show 1 ≤ 1 by decide) ?_
  refine q1 _ ?_
  exact nR [0]
 have hh := ar h
 subst hh
 refine aN ?_
 exact ⟨.inr rfl, _, rfl, rfl, ct.sub ⟨rfl, trivial⟩, rfl⟩
theorem n8 {a0 : (List (A8 Int))} {r : (List (A8 Int))} (h : ke a0 = some r) : bO Try.prog 79 [.d (eL (some 8) (eA8 (D.int .u16)) a0)] (ac []) 0 (.loc 0 0 r.length) (ac [(0, .lst true (some 8) (List.map (eA8 (D.int .u16)) r))]) 1 := by
 refine bO.introN (bl := []) (bl' := [(0, .lst true (some 8) (List.map (eA8 (D.int .u16)) r))]) sY (show 1 ≤ 11 by decide) rfl ?_
 refine aX (s0 := ⟨tab [(0, .d (eL (some 8) (eA8 (D.int .u16)) a0))], ac [], 0⟩) (nr []) ?_
 refine al ⟨tab [(0, .d (eL (some 8) (eA8 (D.int .u16)) a0))], ac [], 0⟩ ?_ ?_
 ·
  refine q1 _ ?_
  exact nR []
 obtain ⟨r1, hr1, h⟩ := aw h
 refine al ⟨tab [(0, .loc 0 0 r1.length)], ac [(0, .lst true (some 8) (List.map (eA8 (D.int .u16)) r1))], 1⟩ ?_ ?_
 ·
  refine q1 _ ?_
  refine eB (v := .loc 0 0 r1.length) (σ' := (ak (ac []) 0 (some (.lst true (some 8) (List.map (eA8 (D.int .u16)) r1))))) (n' := 1) (eC [] (uH hr1) (show 0 ≤ 1 by decide) (by decide) (show ∀ i ∈ [], i < 0 by decide) (c4 (show 0 < 1 by decide) dG) (aY.c (.d _) aY.nil0) SN.nil0) (show 0 ≤ 1 by decide) ?_
  refine q1 _ ?_
  exact nR [0]
 refine aF ?_
 refine al ⟨tab [(0, .loc 0 0 r1.length), (7, vb (decide ((r1.length : Int) > 64)))], ac [(0, .lst true (some 8) (List.map (eA8 (D.int .u16)) r1))], 1⟩ ?_ ?_
 ·
  iterate 3 refine q1 _ ?_
  exact nR [0]
 by_cases hc2 : decide ((r1.length : Int) > 64) = true
 ·
  replace h := aO hc2 h
  refine aU (t := decide ((r1.length : Int) > 64)) rfl hc2 ?_
  cases h
 ·
  replace h := aP hc2 h
  refine aT (t := decide ((r1.length : Int) > 64)) rfl hc2 ?_
  refine bd ?_
  refine al ⟨tab [(2, .loc 0 0 r1.length)], ac [(0, .lst true (some 8) (List.map (eA8 (D.int .u16)) r1))], 1⟩ ?_ ?_
  ·
   iterate 2 refine q1 _ ?_
   exact nR [0]
  have hh := ar h
  subst hh
  refine aN ?_
  exact ⟨.inr rfl, _, rfl, rfl, ct.sub ⟨rfl, trivial⟩, rfl⟩
theorem uI {self : am → (List Int) → (A8 Int) → Option (List (A8 Int))} (hself : ∀ (a0 : am) (a1 : (List Int)) (a2 : (A8 Int)) (r : (List (A8 Int))), self a0 a1 a2 = some r → PCall Try.prog 50 [bY a0, eL none (D.int .u16) a1, eA8 (D.int .u16) a2] (eL (some 8) (eA8 (D.int .u16)) r)) {a0 : am} {a1 : (List Int)} {a2 : (A8 Int)} {r : (List (A8 Int))} (h : nd self a0 a1 a2 = some r) : PCall Try.prog 50 [bY a0, eL none (D.int .u16) a1, eA8 (D.int .u16) a2] (eL (some 8) (eA8 (D.int .u16)) r) := by
 refine PCall.introN s9 (show 3 ≤ 108 by decide) ?_
 refine aX (s0 := ⟨tab [(0, cg a0), (1, aq a1), (2, .d (eA8 (D.int .u16) a2))], ac [], 0⟩) (nr []) ?_
 refine al ⟨tab [(1, aq a1), (3, bf a0), (5, .d (.cptr (some 8) (eA8 (D.int .u16) a2) 0))], ac [], 0⟩ ?_ ?_
 ·
  iterate 3 refine q1 _ ?_
  exact nR []
 refine aF ?_
 refine al ⟨tab [(1, aq a1), (3, bf a0), (5, .d (.cptr (some 8) (eA8 (D.int .u16) a2) 0)), (17, vi a0.Op)], ac [], 0⟩ ?_ ?_
 ·
  iterate 2 refine q1 _ ?_
  exact nR []
 refine bz ?_
 refine al ⟨tab [(1, aq a1), (3, bf a0), (5, .d (.cptr (some 8) (eA8 (D.int .u16) a2) 0)), (17, vi a0.Op), (18, vb (a0.Op == 1))], ac [], 0⟩ ?_ ?_
 ·
  iterate 2 refine q1 _ ?_
  exact nR []
 by_cases hc1 : (a0.Op == 1) = true
 ·
  replace h := aO hc1 h
  refine aU (t := (a0.Op == 1)) rfl hc1 ?_
  obtain ⟨r2, hr2, h⟩ := aw h
  refine al ⟨tab [(6, .d (eL (some 8) (eA8 (D.int .u16)) r2))], ac [], 0⟩ ?_ ?_
  ·
   refine q1 _ ?_
   refine bx (r := eL (some 8) (eA8 (D.int .u16)) r2) (aI (aI aS.nil')) (gw hr2) ?_
   refine q1 _ ?_
   exact nR []
  have hh := ar h
  subst hh
  refine aN ?_
  show FQ _ _ _ _
  exact bn (.inr rfl) (be (v := .d (eL (some 8) (eA8 (D.int .u16)) r2)) rfl rfl) (RV.d trivial)
 ·
  replace h := aP hc1 h
  refine aT (t := (a0.Op == 1)) rfl hc1 ?_
  refine al ⟨tab [(1, aq a1), (3, bf a0), (5, .d (.cptr (some 8) (eA8 (D.int .u16) a2) 0)), (17, vi a0.Op), (22, vb (a0.Op == 2))], ac [], 0⟩ ?_ ?_
  ·
   iterate 2 refine q1 _ ?_
   exact nR []
  by_cases hc3 : (a0.Op == 2) = true
  ·
   replace h := aO hc3 h
   refine aU (t := (a0.Op == 2)) rfl hc3 ?_
   obtain ⟨x4, hx4, h⟩ := aw h
   obtain ⟨r5, hr5, h⟩ := aw h
   refine al ⟨tab [(6, .d (eL (some 8) (eA8 (D.int .u16)) r5))], ac [], 0⟩ ?_ ?_
   ·
    iterate 2 refine q1 _ ?_
    refine step (v := .d (.cptr (some 8) (eA8 (D.int .u16) a2) (0 + a0.F.toNat * 1))) (jZ (xs := a2.l) hx4 rfl rfl rfl) ?_
    refine step (v := vh x4) (jW rfl (jU (e := (D.int .u16)) (xs := a2.l) (pre := []) (post := []) hx4 rfl (by decide))) ?_
    iterate 4 refine q1 _ ?_
    refine bx (r := eL (some 8) (eA8 (D.int .u16)) r5) (aI (aI aS.nil')) (gw hr5) ?_
    refine q1 _ ?_
    exact nR []
   have hh := ar h
   subst hh
   refine aN ?_
   show FQ _ _ _ _
   exact bn (.inr rfl) (be (v := .d (eL (some 8) (eA8 (D.int .u16)) r5)) rfl rfl) (RV.d trivial)
  ·
   replace h := aP hc3 h
   refine aT (t := (a0.Op == 2)) rfl hc3 ?_
   refine al ⟨tab [(1, aq a1), (3, bf a0), (5, .d (.cptr (some 8) (eA8 (D.int .u16) a2) 0)), (17, vi a0.Op), (33, vb (a0.Op == 3))], ac [], 0⟩ ?_ ?_
   ·
    iterate 2 refine q1 _ ?_
    exact nR []
   by_cases hc6 : (a0.Op == 3) = true
   ·
    replace h := aO hc6 h
    refine aU (t := (a0.Op == 3)) rfl hc6 ?_
    obtain ⟨r7, hr7, h⟩ := aw h
    obtain ⟨r8, hr8, h⟩ := aw h
    refine al ⟨tab [(6, .d (eL (some 8) (eA8 (D.int .u16)) r8))], ac [], 0⟩ ?_ ?_
    ·
     iterate 2 refine q1 _ ?_
     refine bx (r := .bool r7) (aI (aI aS.nil')) (ut hr7) ?_
     refine q1 _ ?_
     refine bx (r := eL (some 8) (eA8 (D.int .u16)) r8) (aI (aI aS.nil')) (gw hr8) ?_
     refine q1 _ ?_
     exact nR []
    have hh := ar h
    subst hh
    refine aN ?_
    show FQ _ _ _ _
    exact bn (.inr rfl) (be (v := .d (eL (some 8) (eA8 (D.int .u16)) r8)) rfl rfl) (RV.d trivial)
   ·
    replace h := aP hc6 h
    refine aT (t := (a0.Op == 3)) rfl hc6 ?_
    refine al ⟨tab [(1, aq a1), (3, bf a0), (5, .d (.cptr (some 8) (eA8 (D.int .u16) a2) 0)), (17, vi a0.Op), (40, vb (a0.Op == 4))], ac [], 0⟩ ?_ ?_
    ·
     iterate 2 refine q1 _ ?_
     exact nR []
    by_cases hc9 : (a0.Op == 4) = true
    ·
     replace h := aO hc9 h
     refine aU (t := (a0.Op == 4)) rfl hc9 ?_
     obtain ⟨x10, hx10, h⟩ := aw h
     obtain ⟨r11, hr11, h⟩ := aw h
     obtain ⟨r12, hr12, h⟩ := aw h
     refine al ⟨tab [(6, .d (eL (some 8) (eA8 (D.int .u16)) r12))], ac [], 0⟩ ?_ ?_
     ·
      iterate 2 refine q1 _ ?_
      refine step (v := bf x10) (fp (xs := a0.Kids) (e := bQ) hx10 rfl rfl (eG _)) ?_
      iterate 3 refine q1 _ ?_
      refine bx (r := eL (some 8) (eA8 (D.int .u16)) r11) (aI (aI (aI aS.nil'))) (hself _ _ _ _ hr11) ?_
      refine step (v := vi (r11.length : Int)) (bG (xs := r11) (e := (eA8 (D.int .u16))) rfl) ?_
      iterate 2 refine q1 _ ?_
      refine bx (r := eL (some 8) (eA8 (D.int .u16)) r12) (aI (aI aS.nil')) (gw hr12) ?_
      refine q1 _ ?_
      exact nR []
     have hh := ar h
     subst hh
     refine aN ?_
     show FQ _ _ _ _
     exact bn (.inr rfl) (be (v := .d (eL (some 8) (eA8 (D.int .u16)) r12)) rfl rfl) (RV.d trivial)
    ·
     replace h := aP hc9 h
     refine aT (t := (a0.Op == 4)) rfl hc9 ?_
     refine al ⟨tab [(1, aq a1), (3, bf a0), (5, .d (.cptr (some 8) (eA8 (D.int .u16) a2) 0)), (17, vi a0.Op), (53, vb (a0.Op == 5))], ac [], 0⟩ ?_ ?_
     ·
      iterate 2 refine q1 _ ?_
      exact nR []
     by_cases hc13 : (a0.Op == 5) = true
     ·
      replace h := aO hc13 h
      refine aU (t := (a0.Op == 5)) rfl hc13 ?_
      obtain ⟨r14, hr14, h⟩ := aw h
      obtain ⟨r15, hr15, h⟩ := aw h
      refine al ⟨tab [(6, .d (eL (some 8) (eA8 (D.int .u16)) r15))], ac [], 0⟩ ?_ ?_
      ·
       iterate 5 refine q1 _ ?_
       refine bx (r := eA8 (D.int .u16) r14) (aI (aI (aI aS.nil'))) (uw hr14) ?_
       refine bx (r := eL (some 8) (eA8 (D.int .u16)) r15) (aI (aI aS.nil')) (gw hr15) ?_
       refine q1 _ ?_
       exact nR []
      have hh := ar h
      subst hh
      refine aN ?_
      show FQ _ _ _ _
      exact bn (.inr rfl) (be (v := .d (eL (some 8) (eA8 (D.int .u16)) r15)) rfl rfl) (RV.d trivial)
     ·
      replace h := aP hc13 h
      refine aT (t := (a0.Op == 5)) rfl hc13 ?_
      refine al ⟨tab [(1, aq a1), (3, bf a0), (5, .d (.cptr (some 8) (eA8 (D.int .u16) a2) 0)), (17, vi a0.Op), (62, vb (a0.Op == 7))], ac [], 0⟩ ?_ ?_
      ·
       iterate 2 refine q1 _ ?_
       exact nR []
      by_cases hc16 : (a0.Op == 7) = true
      ·
       replace h := aO hc16 h
       refine aU (t := (a0.Op == 7)) rfl hc16 ?_
       refine al ⟨tab [(1, aq a1), (3, bf a0), (5, .d (.cptr (some 8) (eA8 (D.int .u16) a2) 0)), (7, .d (.nils))], ac [], 0⟩ ?_ ?_
       ·
        refine q1 _ ?_
        exact nR []
       refine aF ?_
       refine al ⟨tab [(1, aq a1), (5, .d (.cptr (some 8) (eA8 (D.int .u16) a2) 0)), (7, .d (.nils)), (65, aC a0.Kids), (66, vi (a0.Kids.length : Int)), (67, vi 0)], ac [], 0⟩ ?_ ?_
       ·
        iterate 2 refine q1 _ ?_
        refine step (v := vi (a0.Kids.length : Int)) (bG (xs := a0.Kids) (e := bQ) rfl) ?_
        refine q1 _ ?_
        exact nR []
       obtain ⟨z28, hl, h⟩ := aw h
       refine aX (s0 := ⟨tab [(1, aq a1), (5, .d (.cptr (some 8) (eA8 (D.int .u16) a2) 0)), (7, .loc 0 0 (([] : List (A8 Int)).length)), (65, aC a0.Kids), (66, vi (a0.Kids.length : Int)), (67, vi 0)], ac [(0, .lst false (some 8) (List.map (eA8 (D.int .u16)) ([] : List (A8 Int))))], 1⟩) (bK.trans (s2 := ⟨tab [(1, aq a1), (5, .d (.cptr (some 8) (eA8 (D.int .u16) a2) 0)), (7, .loc 0 0 (([] : List (A8 Int)).length)), (65, aC a0.Kids), (66, vi (a0.Kids.length : Int)), (67, vi 0)], ac [(0, .lst false (some 8) (List.map (eA8 (D.int .u16)) ([] : List (A8 Int))))], 1⟩) (iC 7 false (some 8) rfl) (nr [0])) ?_
       refine bz ?_
       refine fN (cA (a0.Kids.length : Int)) (fun (i18 : Int) (qq : (List (A8 Int))) => ⟨tab [(1, aq a1), (5, .d (.cptr (some 8) (eA8 (D.int .u16) a2) 0)), (7, .loc 0 0 qq.length), (65, aC a0.Kids), (66, vi (a0.Kids.length : Int)), (67, vi i18)], ac [(0, .lst false (some 8) (List.map (eA8 (D.int .u16)) qq))], 1⟩) 1 (fun (qq : (List (A8 Int))) => ⟨tab [(7, .loc 0 0 qq.length)], ac [(0, .lst false (some 8) (List.map (eA8 (D.int .u16)) qq))], 1⟩) bF cB hl (by unfold bF; omega) ?_ ?_ ?_
       ·
        rintro i18 l17 xr23 hinv21 hgo20 h
        show aK _ _ _ _ _ ⟨tab [(1, aq a1), (5, .d (.cptr (some 8) (eA8 (D.int .u16) a2) 0)), (7, .loc 0 0 l17.length), (65, aC a0.Kids), (66, vi (a0.Kids.length : Int)), (67, vi i18)], ac [(0, .lst false (some 8) (List.map (eA8 (D.int .u16)) l17))], 1⟩
        have hc22 : decide (i18 < (a0.Kids.length : Int)) = true := decide_eq_true hgo20
        refine al ⟨tab [(1, aq a1), (5, .d (.cptr (some 8) (eA8 (D.int .u16) a2) 0)), (7, .loc 0 0 l17.length), (65, aC a0.Kids), (66, vi (a0.Kids.length : Int)), (67, vi i18), (68, vb (decide (i18 < (a0.Kids.length : Int))))], ac [(0, .lst false (some 8) (List.map (eA8 (D.int .u16)) l17))], 1⟩ ?_ ?_
        ·
         refine q1 _ ?_
         exact nR [0]
        refine cz 66 rfl fun hB19 => ?_
        refine aF ?_
        refine aU (t := decide (i18 < (a0.Kids.length : Int))) rfl hc22 ?_
        refine bd ?_
        refine aF ?_
        refine bz ?_
        obtain ⟨x24, hx24, h⟩ := aw h
        refine al ⟨tab [(1, aq a1), (5, .d (.cptr (some 8) (eA8 (D.int .u16) a2) 0)), (7, .loc 0 0 l17.length), (9, .ptr 1 0 0), (65, aC a0.Kids), (66, vi (a0.Kids.length : Int)), (67, vi i18)], ac [(0, .lst false (some 8) (List.map (eA8 (D.int .u16)) l17)), (1, cw x24)], 2⟩ ?_ ?_
        ·
         refine step (v := bf x24) (fp (xs := a0.Kids) (e := bQ) hx24 rfl rfl (eG _)) ?_
         refine q1 _ ?_
         refine step (v := .ptr 1 0 0) (σ' := (ak (ac [(0, .lst false (some 8) (List.map (eA8 (D.int .u16)) l17))]) 1 (some (.var [vi 0, vi 0, vh 0, aC []])))) (n' := 2) rfl ?_
         refine step (v := V.undef) (σ' := (ak (ak (ac [(0, .lst false (some 8) (List.map (eA8 (D.int .u16)) l17))]) 1 (some (.var [vi 0, vi 0, vh 0, aC []]))) 1 (some (cw x24)))) (n' := 2) rfl ?_
         exact nR [0, 1]
        obtain ⟨r25, hr25, h⟩ := aw h
        obtain ⟨l26, hl26, h⟩ := aw h
        obtain ⟨r27, hr27, h⟩ := aw h
        refine bT ⟨tab [(1, aq a1), (5, .d (.cptr (some 8) (eA8 (D.int .u16) a2) 0)), (7, .loc 0 0 r27.length), (65, aC a0.Kids), (66, vi (a0.Kids.length : Int)), (67, vi i18)], ac [(0, .lst false (some 8) (List.map (eA8 (D.int .u16)) r27))], 1⟩ ?_ ?_
        ·
         refine q1 _ ?_
         refine step (v := cg x24) (b5 (ds := [.int .i64 x24.Op, .int .i64 x24.F, .int .u16 x24.N, eL (some 4) bQ x24.Kids]) rfl rfl (show 4 ≤ 4 by decide) rfl) ?_
         iterate 2 refine q1 _ ?_
         refine bx (r := eL (some 8) (eA8 (D.int .u16)) r25) (aI (aI (aI aS.nil'))) (hself _ _ _ _ hr25) ?_
         refine step (v := .loc 2 0 l26.length) (σ' := (ak (ak (ac [(0, .lst false (some 8) (List.map (eA8 (D.int .u16)) l17)), (1, cw x24)]) 0 none) 2 (some (.lst false (some 8) (List.map (eA8 (D.int .u16)) l26))))) (n' := 3) (eQ (xs := l17) (ys := r25) (e := (eA8 (D.int .u16))) hl26 rfl rfl rfl (eP (xs := r25) (e := (eA8 (D.int .u16))) rfl)) ?_
         refine eB (v := .loc 3 0 r27.length) (σ' := (ak (ak (ak (ac [(0, .lst false (some 8) (List.map (eA8 (D.int .u16)) l17)), (1, cw x24)]) 0 none) 2 (some (.lst false (some 8) (List.map (eA8 (D.int .u16)) l26)))) 3 (some (.lst false (some 8) (List.map (eA8 (D.int .u16)) r27))))) (n' := 4) (bO.sees (eC [] (bO.frz (n8 hr27)) (show 0 ≤ 1 by decide) (by decide) (show ∀ i ∈ [], i < 3 by decide) (c4 (show 0 < 1 by decide) dG) (aY.c (.d _) aY.nil0) SN.nil0) ⟨.inr ⟨_, (j0 (xs := l26) (e := (eA8 (D.int .u16))) rfl rfl), rfl⟩, trivial⟩) (show 3 ≤ 4 by decide) ?_
         refine q1 _ ?_
         exact nR [3]
        have hh := ar h
        subst hh
        refine bT ⟨tab [(1, aq a1), (5, .d (.cptr (some 8) (eA8 (D.int .u16) a2) 0)), (7, .loc 0 0 r27.length), (65, aC a0.Kids), (66, vi (a0.Kids.length : Int)), (67, vi (i18 + 1))], ac [(0, .lst false (some 8) (List.map (eA8 (D.int .u16)) r27))], 1⟩ ?_ ?_
        ·
         refine step (v := vi (i18 + 1)) (cC (cD hinv21 hgo20 hB19) rfl rfl) ?_
         refine q1 _ ?_
         exact nR [0]
        exact And.intro rfl rfl
       ·
        rintro i18 l17 hinv21 hgo20
        show aK _ _ _ _ _ ⟨tab [(1, aq a1), (5, .d (.cptr (some 8) (eA8 (D.int .u16) a2) 0)), (7, .loc 0 0 l17.length), (65, aC a0.Kids), (66, vi (a0.Kids.length : Int)), (67, vi i18)], ac [(0, .lst false (some 8) (List.map (eA8 (D.int .u16)) l17))], 1⟩
        have hc22 : ¬ (decide (i18 < (a0.Kids.length : Int)) = true) := fun hq => hgo20 (of_decide_eq_true hq)
        refine al ⟨tab [(1, aq a1), (5, .d (.cptr (some 8) (eA8 (D.int .u16) a2) 0)), (7, .loc 0 0 l17.length), (65, aC a0.Kids), (66, vi (a0.Kids.length : Int)), (67, vi i18), (68, vb (decide (i18 < (a0.Kids.length : Int))))], ac [(0, .lst false (some 8) (List.map (eA8 (D.int .u16)) l17))], 1⟩ ?_ ?_
        ·
         refine q1 _ ?_
         exact nR [0]
        refine aF ?_
        refine aT (t := decide (i18 < (a0.Kids.length : Int))) rfl hc22 ?_
        refine aX (s0 := ⟨tab [(7, .loc 0 0 l17.length)], ac [(0, .lst false (some 8) (List.map (eA8 (D.int .u16)) l17))], 1⟩) (nr [0]) ?_
        refine cn ?_
        exact And.intro rfl rfl
       refine al ⟨tab [(6, .loc 0 0 z28.length)], ac [(0, .lst false (some 8) (List.map (eA8 (D.int .u16)) z28))], 1⟩ ?_ ?_
       ·
        iterate 2 refine q1 _ ?_
        exact nR [0]
       have hh := ar h
       subst hh
       refine aN ?_
       show FQ _ _ _ _
       exact bn (.inr rfl) (be (v := .loc 0 0 z28.length) rfl rfl) (RV.loc (xs := z28) (e := (eA8 (D.int .u16))) rfl rfl trivial)
      ·
       replace h := aP hc16 h
       refine aT (t := (a0.Op == 7)) rfl hc16 ?_
       refine al ⟨tab [(1, aq a1), (3, bf a0), (5, .d (.cptr (some 8) (eA8 (D.int .u16) a2) 0)), (80, vb (a0.Op == 6))], ac [], 0⟩ ?_ ?_
       ·
        iterate 2 refine q1 _ ?_
        exact nR []
       by_cases hc30 : (a0.Op == 6) = true
       ·
        replace h := aO hc30 h
        refine aU (t := (a0.Op == 6)) rfl hc30 ?_
        obtain ⟨r31, hr31, h⟩ := aw h
        refine al ⟨tab [(1, aq a1), (3, bf a0), (10, .d (eL (some 8) (eA8 (D.int .u16)) r31))], ac [], 0⟩ ?_ ?_
        ·
         refine q1 _ ?_
         refine bx (r := eL (some 8) (eA8 (D.int .u16)) r31) (aI (aI aS.nil')) (gw hr31) ?_
         refine q1 _ ?_
         exact nR []
        refine aF ?_
        refine al ⟨tab [(1, aq a1), (10, .d (eL (some 8) (eA8 (D.int .u16)) r31)), (85, aC a0.Kids), (86, vi (a0.Kids.length : Int)), (87, vi 0)], ac [], 0⟩ ?_ ?_
        ·
         iterate 2 refine q1 _ ?_
         refine step (v := vi (a0.Kids.length : Int)) (bG (xs := a0.Kids) (e := bQ) rfl) ?_
         refine q1 _ ?_
         exact nR []
        obtain ⟨z53, hl, h⟩ := aw h
        refine bz ?_
        refine fN (cA (a0.Kids.length : Int)) (fun (i33 : Int) (qq : (List (A8 Int))) => ⟨tab [(1, aq a1), (10, .d (eL (some 8) (eA8 (D.int .u16)) qq)), (85, aC a0.Kids), (86, vi (a0.Kids.length : Int)), (87, vi i33)], ac [], 0⟩) 3 (fun (qq : (List (A8 Int))) => ⟨tab [(10, .d (eL (some 8) (eA8 (D.int .u16)) qq))], ac [], 0⟩) bF cB hl (by unfold bF; omega) ?_ ?_ ?_
        ·
         rintro i33 y32 xr38 hinv36 hgo35 h
         show aK _ _ _ _ _ ⟨tab [(1, aq a1), (10, .d (eL (some 8) (eA8 (D.int .u16)) y32)), (85, aC a0.Kids), (86, vi (a0.Kids.length : Int)), (87, vi i33)], ac [], 0⟩
         have hc37 : decide (i33 < (a0.Kids.length : Int)) = true := decide_eq_true hgo35
         refine al ⟨tab [(1, aq a1), (10, .d (eL (some 8) (eA8 (D.int .u16)) y32)), (85, aC a0.Kids), (86, vi (a0.Kids.length : Int)), (87, vi i33), (88, vb (decide (i33 < (a0.Kids.length : Int))))], ac [], 0⟩ ?_ ?_
         ·
          refine q1 _ ?_
          exact nR []
         refine cz 86 rfl fun hB34 => ?_
         refine aF ?_
         refine aU (t := decide (i33 < (a0.Kids.length : Int))) rfl hc37 ?_
         refine bd ?_
         refine aF ?_
         refine bz ?_
         obtain ⟨x39, hx39, h⟩ := aw h
         refine al ⟨tab [(1, aq a1), (10, .d (eL (some 8) (eA8 (D.int .u16)) y32)), (12, .ptr 0 0 0), (85, aC a0.Kids), (86, vi (a0.Kids.length : Int)), (87, vi i33)], ac [(0, cw x39)], 1⟩ ?_ ?_
         ·
          refine step (v := bf x39) (fp (xs := a0.Kids) (e := bQ) hx39 rfl rfl (eG _)) ?_
          refine q1 _ ?_
          refine step (v := .ptr 0 0 0) (σ' := (ak (ac []) 0 (some (.var [vi 0, vi 0, vh 0, aC []])))) (n' := 1) rfl ?_
          refine step (v := V.undef) (σ' := (ak (ak (ac []) 0 (some (.var [vi 0, vi 0, vh 0, aC []]))) 0 (some (cw x39)))) (n' := 1) rfl ?_
          exact nR [0]
         refine al ⟨tab [(1, aq a1), (10, .d (eL (some 8) (eA8 (D.int .u16)) y32)), (12, .ptr 0 0 0), (13, .d (.nils)), (85, aC a0.Kids), (86, vi (a0.Kids.length : Int)), (87, vi i33)], ac [(0, cw x39)], 1⟩ ?_ ?_
         ·
          refine q1 _ ?_
          exact nR [0]
         refine aF ?_
         refine al ⟨tab [(1, aq a1), (12, .ptr 0 0 0), (13, .d (.nils)), (85, aC a0.Kids), (86, vi (a0.Kids.length : Int)), (87, vi i33), (91, .d (eL (some 8) (eA8 (D.int .u16)) y32)), (92, vi (y32.length : Int)), (93, vi 0)], ac [(0, cw x39)], 1⟩ ?_ ?_
         ·
          refine q1 _ ?_
          refine step (v := vi (y32.length : Int)) (bG (xs := y32) (e := (eA8 (D.int .u16))) rfl) ?_
          refine q1 _ ?_
          exact nR [0]
         obtain ⟨z50, hl, h⟩ := aw h
         refine aX (s0 := ⟨tab [(1, aq a1), (12, .ptr 0 0 0), (13, .loc 1 0 (([] : List (A8 Int)).length)), (85, aC a0.Kids), (86, vi (a0.Kids.length : Int)), (87, vi i33), (91, .d (eL (some 8) (eA8 (D.int .u16)) y32)), (92, vi (y32.length : Int)), (93, vi 0)], ac [(0, cw x39), (1, .lst false (some 8) (List.map (eA8 (D.int .u16)) ([] : List (A8 Int))))], 2⟩) (bK.trans (s2 := ⟨tab [(1, aq a1), (12, .ptr 0 0 0), (13, .loc 1 0 (([] : List (A8 Int)).length)), (85, aC a0.Kids), (86, vi (a0.Kids.length : Int)), (87, vi i33), (91, .d (eL (some 8) (eA8 (D.int .u16)) y32)), (92, vi (y32.length : Int)), (93, vi 0)], ac [(0, cw x39), (1, .lst false (some 8) (List.map (eA8 (D.int .u16)) ([] : List (A8 Int))))], 2⟩) (iC 13 false (some 8) rfl) (nr [0, 1])) ?_
         refine bz ?_
         refine fN (cA (y32.length : Int)) (fun (i41 : Int) (qq : (List (A8 Int))) => ⟨tab [(1, aq a1), (12, .ptr 0 0 0), (13, .loc 1 0 qq.length), (85, aC a0.Kids), (86, vi (a0.Kids.length : Int)), (87, vi i33), (91, .d (eL (some 8) (eA8 (D.int .u16)) y32)), (92, vi (y32.length : Int)), (93, vi i41)], ac [(0, cw x39), (1, .lst false (some 8) (List.map (eA8 (D.int .u16)) qq))], 2⟩) 5 (fun (qq : (List (A8 Int))) => ⟨tab [(1, aq a1), (13, .loc 0 0 qq.length), (85, aC a0.Kids), (86, vi (a0.Kids.length : Int)), (87, vi i33)], ac [(0, .lst false (some 8) (List.map (eA8 (D.int .u16)) qq))], 1⟩) bF cB hl (by unfold bF; omega) ?_ ?_ ?_
         ·
          rintro i41 l40 xr46 hinv44 hgo43 h
          show aK _ _ _ _ _ ⟨tab [(1, aq a1), (12, .ptr 0 0 0), (13, .loc 1 0 l40.length), (85, aC a0.Kids), (86, vi (a0.Kids.length : Int)), (87, vi i33), (91, .d (eL (some 8) (eA8 (D.int .u16)) y32)), (92, vi (y32.length : Int)), (93, vi i41)], ac [(0, cw x39), (1, .lst false (some 8) (List.map (eA8 (D.int .u16)) l40))], 2⟩
          have hc45 : decide (i41 < (y32.length : Int)) = true := decide_eq_true hgo43
          refine al ⟨tab [(1, aq a1), (12, .ptr 0 0 0), (13, .loc 1 0 l40.length), (85, aC a0.Kids), (86, vi (a0.Kids.length : Int)), (87, vi i33), (91, .d (eL (some 8) (eA8 (D.int .u16)) y32)), (92, vi (y32.length : Int)), (93, vi i41), (94, vb (decide (i41 < (y32.length : Int))))], ac [(0, cw x39), (1, .lst false (some 8) (List.map (eA8 (D.int .u16)) l40))], 2⟩ ?_ ?_
          ·
           refine q1 _ ?_
           exact nR [0, 1]
          refine cz 92 rfl fun hB42 => ?_
          refine aF ?_
          refine aU (t := decide (i41 < (y32.length : Int))) rfl hc45 ?_
          refine bd ?_
          refine aF ?_
          refine bz ?_
          obtain ⟨x47, hx47, h⟩ := aw h
          refine al ⟨tab [(1, aq a1), (12, .ptr 0 0 0), (13, .loc 1 0 l40.length), (15, .ptr 2 0 0), (85, aC a0.Kids), (86, vi (a0.Kids.length : Int)), (87, vi i33), (91, .d (eL (some 8) (eA8 (D.int .u16)) y32)), (92, vi (y32.length : Int)), (93, vi i41)], ac [(0, cw x39), (1, .lst false (some 8) (List.map (eA8 (D.int .u16)) l40)), (2, .var [vh x47.a0, vh x47.a1, vh x47.a2, vh x47.a3, vh x47.a4, vh x47.a5, vh x47.a6, vh x47.a7])], 3⟩ ?_ ?_
          ·
           refine step (v := .d (.cptr (some 8) (eA8 (D.int .u16) x47) 0)) (b4 (xs := y32) (e := (eA8 (D.int .u16))) hx47 rfl rfl) ?_
           refine q1 _ ?_
           refine step (v := .ptr 2 0 0) (σ' := (ak (ac [(0, cw x39), (1, .lst false (some 8) (List.map (eA8 (D.int .u16)) l40))]) 2 (some (bR)))) (n' := 3) rfl ?_
           refine step (v := V.undef) (σ' := (ak (ak (ac [(0, cw x39), (1, .lst false (some 8) (List.map (eA8 (D.int .u16)) l40))]) 2 (some (bR))) 2 (some (.var [vh x47.a0, vh x47.a1, vh x47.a2, vh x47.a3, vh x47.a4, vh x47.a5, vh x47.a6, vh x47.a7])))) (n' := 3) rfl ?_
           exact nR [0, 1, 2]
          obtain ⟨r48, hr48, h⟩ := aw h
          obtain ⟨l49, hl49, h⟩ := aw h
          refine bT ⟨tab [(1, aq a1), (12, .ptr 0 0 0), (13, .loc 1 0 l49.length), (85, aC a0.Kids), (86, vi (a0.Kids.length : Int)), (87, vi i33), (91, .d (eL (some 8) (eA8 (D.int .u16)) y32)), (92, vi (y32.length : Int)), (93, vi i41)], ac [(0, cw x39), (1, .lst false (some 8) (List.map (eA8 (D.int .u16)) l49))], 2⟩ ?_ ?_
          ·
           refine q1 _ ?_
           refine step (v := cg x39) (b5 (ds := [.int .i64 x39.Op, .int .i64 x39.F, .int .u16 x39.N, eL (some 4) bQ x39.Kids]) rfl rfl (show 4 ≤ 4 by decide) rfl) ?_
           refine q1 _ ?_
           refine step (v := .d (eA8 (D.int .u16) x47)) (b5 (ds := [.int .u16 x47.a0, .int .u16 x47.a1, .int .u16 x47.a2, .int .u16 x47.a3, .int .u16 x47.a4, .int .u16 x47.a5, .int .u16 x47.a6, .int .u16 x47.a7]) rfl rfl (show 8 ≤ 8 by decide) rfl) ?_
           refine bx (r := eL (some 8) (eA8 (D.int .u16)) r48) (aI (aI (aI aS.nil'))) (hself _ _ _ _ hr48) ?_
           refine step (v := .loc 3 0 l49.length) (σ' := (ak (ak (ac [(0, cw x39), (1, .lst false (some 8) (List.map (eA8 (D.int .u16)) l40)), (2, .var [vh x47.a0, vh x47.a1, vh x47.a2, vh x47.a3, vh x47.a4, vh x47.a5, vh x47.a6, vh x47.a7])]) 1 none) 3 (some (.lst false (some 8) (List.map (eA8 (D.int .u16)) l49))))) (n' := 4) (eQ (xs := l40) (ys := r48) (e := (eA8 (D.int .u16))) hl49 rfl rfl rfl (eP (xs := r48) (e := (eA8 (D.int .u16))) rfl)) ?_
           refine q1 _ ?_
           exact nR [0, 3]
          have hh := ar h
          subst hh
          refine bT ⟨tab [(1, aq a1), (12, .ptr 0 0 0), (13, .loc 1 0 l49.length), (85, aC a0.Kids), (86, vi (a0.Kids.length : Int)), (87, vi i33), (91, .d (eL (some 8) (eA8 (D.int .u16)) y32)), (92, vi (y32.length : Int)), (93, vi (i41 + 1))], ac [(0, cw x39), (1, .lst false (some 8) (List.map (eA8 (D.int .u16)) l49))], 2⟩ ?_ ?_
          ·
           refine step (v := vi (i41 + 1)) (cC (cD hinv44 hgo43 hB42) rfl rfl) ?_
           refine q1 _ ?_
           exact nR [0, 1]
          exact And.intro rfl rfl
         ·
          rintro i41 l40 hinv44 hgo43
          show aK _ _ _ _ _ ⟨tab [(1, aq a1), (12, .ptr 0 0 0), (13, .loc 1 0 l40.length), (85, aC a0.Kids), (86, vi (a0.Kids.length : Int)), (87, vi i33), (91, .d (eL (some 8) (eA8 (D.int .u16)) y32)), (92, vi (y32.length : Int)), (93, vi i41)], ac [(0, cw x39), (1, .lst false (some 8) (List.map (eA8 (D.int .u16)) l40))], 2⟩
          have hc45 : ¬ (decide (i41 < (y32.length : Int)) = true) := fun hq => hgo43 (of_decide_eq_true hq)
          refine al ⟨tab [(1, aq a1), (12, .ptr 0 0 0), (13, .loc 1 0 l40.length), (85, aC a0.Kids), (86, vi (a0.Kids.length : Int)), (87, vi i33), (91, .d (eL (some 8) (eA8 (D.int .u16)) y32)), (92, vi (y32.length : Int)), (93, vi i41), (94, vb (decide (i41 < (y32.length : Int))))], ac [(0, cw x39), (1, .lst false (some 8) (List.map (eA8 (D.int .u16)) l40))], 2⟩ ?_ ?_
          ·
           refine q1 _ ?_
           exact nR [0, 1]
          refine aF ?_
          refine aT (t := decide (i41 < (y32.length : Int))) rfl hc45 ?_
          refine aX (s0 := ⟨tab [(1, aq a1), (13, .loc 0 0 l40.length), (85, aC a0.Kids), (86, vi (a0.Kids.length : Int)), (87, vi i33)], ac [(0, .lst false (some 8) (List.map (eA8 (D.int .u16)) l40))], 1⟩) (nr [1]) ?_
          refine cn ?_
          exact And.intro rfl rfl
         obtain ⟨r51, hr51, h⟩ := aw h
         refine bT ⟨tab [(1, aq a1), (10, .d (eL (some 8) (eA8 (D.int .u16)) r51)), (85, aC a0.Kids), (86, vi (a0.Kids.length : Int)), (87, vi i33)], ac [], 0⟩ ?_ ?_
         ·
          refine q1 _ ?_
          refine eB (v := .d (eL (some 8) (eA8 (D.int .u16)) r51)) (σ' := _) (n' := _) (rE (rD (ds := [eL (some 8) (eA8 (D.int .u16)) z50]) (n8 hr51) (by simp)) (qC (xs := z50) (e := (eA8 (D.int .u16))) rfl rfl aS.nil')) (Nat.le_refl _) ?_
          refine q1 _ ?_
          exact nR []
         have hh := ar h
         subst hh
         refine bT ⟨tab [(1, aq a1), (10, .d (eL (some 8) (eA8 (D.int .u16)) r51)), (85, aC a0.Kids), (86, vi (a0.Kids.length : Int)), (87, vi (i33 + 1))], ac [], 0⟩ ?_ ?_
         ·
          refine step (v := vi (i33 + 1)) (cC (cD hinv36 hgo35 hB34) rfl rfl) ?_
          refine q1 _ ?_
          exact nR []
         exact And.intro rfl rfl
        ·
         rintro i33 y32 hinv36 hgo35
         show aK _ _ _ _ _ ⟨tab [(1, aq a1), (10, .d (eL (some 8) (eA8 (D.int .u16)) y32)), (85, aC a0.Kids), (86, vi (a0.Kids.length : Int)), (87, vi i33)], ac [], 0⟩
         have hc37 : ¬ (decide (i33 < (a0.Kids.length : Int)) = true) := fun hq => hgo35 (of_decide_eq_true hq)
         refine al ⟨tab [(1, aq a1), (10, .d (eL (some 8) (eA8 (D.int .u16)) y32)), (85, aC a0.Kids), (86, vi (a0.Kids.length : Int)), (87, vi i33), (88, vb (decide (i33 < (a0.Kids.length : Int))))], ac [], 0⟩ ?_ ?_
         ·
          refine q1 _ ?_
          exact nR []
         refine aF ?_
         refine aT (t := decide (i33 < (a0.Kids.length : Int))) rfl hc37 ?_
         refine aX (s0 := ⟨tab [(10, .d (eL (some 8) (eA8 (D.int .u16)) y32))], ac [], 0⟩) (nr []) ?_
         refine cn ?_
         exact And.intro rfl rfl
        refine al ⟨tab [(6, .d (eL (some 8) (eA8 (D.int .u16)) z53))], ac [], 0⟩ ?_ ?_
        ·
         iterate 2 refine q1 _ ?_
         exact nR []
        have hh := ar h
        subst hh
        refine aN ?_
        show FQ _ _ _ _
        exact bn (.inr rfl) (be (v := .d (eL (some 8) (eA8 (D.int .u16)) z53)) rfl rfl) (RV.d trivial)
       ·
        replace h := aP hc30 h
        refine aT (t := (a0.Op == 6)) rfl hc30 ?_
        refine bd ?_
        refine al ⟨tab [(6, .d (eL (some 8) (eA8 (D.int .u16)) ([] : List (A8 Int))))], ac [], 0⟩ ?_ ?_
        ·
         refine q1 _ ?_
         exact nR []
        have hh := ar h
        subst hh
        refine aN ?_
        show FQ _ _ _ _
        exact bn (.inr rfl) (be (v := .d (eL (some 8) (eA8 (D.int .u16)) ([] : List (A8 Int)))) rfl rfl) (RV.d trivial)
theorem n9 : ∀ (k : Nat) (a0 : am) (a1 : (List Int)) (a2 : (A8 Int)) (r : (List (A8 Int))), kf k a0 a1 a2 = some r → PCall Try.prog 50 [bY a0, eL none (D.int .u16) a1, eA8 (D.int .u16) a2] (eL (some 8) (eA8 (D.int .u16)) r)
 | 0, _, _, _, _, h => by cases h
 | k + 1, _, _, _, _, h => uI (n9 k) h
theorem uJ {a0 : am} {a1 : (List Int)} {a2 : (A8 Int)} {r : (List (A8 Int))} (h : nf a0 a1 a2 = some r) : PCall Try.prog 50 [bY a0, eL none (D.int .u16) a1, eA8 (D.int .u16) a2] (eL (some 8) (eA8 (D.int .u16)) r) := n9 dj _ _ _ _ h
theorem uK {a0 : am} {a1 : (List Int)} {a2 : (A8 Int)} {r : ((List (A8 Int)) × Int)} (h : nh a0 a1 a2 = some r) : PCall Try.prog 14 [bY a0, eL none (D.int .u16) a1, eA8 (D.int .u16) a2] (.tup [eL (some 8) (eA8 (D.int .u16)) r.1, .int .i64 r.2]) := by
 refine PCall.introN tb (show 3 ≤ 18 by decide) ?_
 refine aX (s0 := ⟨tab [(0, cg a0), (1, aq a1), (2, .d (eA8 (D.int .u16) a2))], ac [], 0⟩) (nr []) ?_
 refine al ⟨tab [(1, aq a1), (3, bf a0), (5, .d (.cptr (some 8) (eA8 (D.int .u16) a2) 0)), (6, .ptr 0 0 0), (7, .ptr 1 0 0)], ac [(0, .var [.d (eL (some 8) (eA8 (D.int .u16)) [])]), (1, .var [vi 0])], 2⟩ ?_ ?_
 ·
  iterate 2 refine q1 _ ?_
  refine step (v := .ptr 0 0 0) (σ' := (ak (ac []) 0 (some (.var [.d (eL (some 8) (eA8 (D.int .u16)) [])])))) (n' := 1) rfl ?_
  refine step (v := .ptr 1 0 0) (σ' := (ak (ak (ac []) 0 (some (.var [.d (eL (some 8) (eA8 (D.int .u16)) [])]))) 1 (some (.var [vi 0])))) (n' := 2) rfl ?_
  exact nR [0, 1]
 refine aF ?_
 obtain ⟨l1, hl1, h⟩ := aw h
 obtain ⟨r2, hr2, h⟩ := aw h
 refine al ⟨tab [(1, aq a1), (3, bf a0), (5, .d (.cptr (some 8) (eA8 (D.int .u16) a2) 0)), (6, .ptr 0 0 0), (7, .ptr 1 0 0), (12, vb (r2 != 0))], ac [(0, .var [.d (eL (some 8) (eA8 (D.int .u16)) [])]), (1, .var [vi 0])], 2⟩ ?_ ?_
 ·
  refine step (v := .loc 2 0 l1.length) (σ' := (ak (ac [(0, .var [.d (eL (some 8) (eA8 (D.int .u16)) [])]), (1, .var [vi 0])]) 2 (some (.lst false none (List.map (D.int .u16) l1))))) (n' := 3) (qp (e := (D.int .u16)) (z := 0) hl1 rfl rfl (qt hl1)) ?_
  iterate 2 refine q1 _ ?_
  refine bx (r := .int .i64 r2) (qd (qE (gj (mF (xs := l1) (e := (D.int .u16)) rfl rfl) (gj gX (gj gX (gj gX (gj gX (gj gX qD))))))) (cJ.aggs (by exact ⟨.refl _, .refl _, .refl _, .refl _, .refl _, .refl _, trivial⟩)) aS.nil') (ur hr2) ?_
  refine q1 _ ?_
  exact nR [0, 1]
 by_cases hc3 : (r2 != 0) = true
 ·
  replace h := aO hc3 h
  refine aU (t := (r2 != 0)) rfl hc3 ?_
  refine al ⟨tab [(6, .ptr 0 0 0), (7, .ptr 1 0 0)], ac [(0, .var [.d (eL (some 8) (eA8 (D.int .u16)) ([] : List (A8 Int)))]), (1, .var [vi 11])], 2⟩ ?_ ?_
  ·
   refine step (v := V.undef) (σ' := (ak (ac [(0, .var [.d (eL (some 8) (eA8 (D.int .u16)) [])]), (1, .var [vi 0])]) 0 (some (.var [.d (eL (some 8) (eA8 (D.int .u16)) ([] : List (A8 Int)))])))) (n' := 2) rfl ?_
   refine step (v := V.undef) (σ' := (ak (ak (ac [(0, .var [.d (eL (some 8) (eA8 (D.int .u16)) [])]), (1, .var [vi 0])]) 0 (some (.var [.d (eL (some 8) (eA8 (D.int .u16)) ([] : List (A8 Int)))]))) 1 (some (.var [vi 11])))) (n' := 2) rfl ?_
   exact nR [0, 1]
  have hh := ar h
  subst hh
  refine aN ?_
  show FQ _ _ _ _
  exact dF (.inr rfl) rfl (RV.d (RV.d trivial))
 ·
  replace h := aP hc3 h
  refine aT (t := (r2 != 0)) rfl hc3 ?_
  refine bd ?_
  refine rF ?_
  obtain ⟨r4, hr4, h⟩ := aw h
  refine al ⟨tab [(6, .ptr 0 0 0), (7, .ptr 1 0 0)], ac [(0, .var [.d (eL (some 8) (eA8 (D.int .u16)) r4)]), (1, .var [vi 0])], 2⟩ ?_ ?_
  ·
   iterate 3 refine q1 _ ?_
   refine bx (r := eL (some 8) (eA8 (D.int .u16)) r4) (aI (aI (aI aS.nil'))) (uJ hr4) ?_
   refine step (v := V.undef) (σ' := (ak (ac [(0, .var [.d (eL (some 8) (eA8 (D.int .u16)) [])]), (1, .var [vi 0])]) 0 (some (.var [.d (eL (some 8) (eA8 (D.int .u16)) r4)])))) (n' := 2) rfl ?_
   refine step (v := V.undef) (σ' := (ak (ak (ac [(0, .var [.d (eL (some 8) (eA8 (D.int .u16)) [])]), (1, .var [vi 0])]) 0 (some (.var [.d (eL (some 8) (eA8 (D.int .u16)) r4)]))) 1 (some (.var [vi 0])))) (n' := 2) rfl ?_
   exact nR [0, 1]
  have hh := ar h
  subst hh
  refine aN ?_
  show FQ _ _ _ _
  exact dF (.inr rfl) rfl (RV.d (RV.d trivial))
theorem kG {a0 : am} {a1 : (List Int)} {a2 : (A8 Int)} {r : ((List (A8 Int)) × Int)} (h : iI a0 a1 a2 = some r) : PCall Try.prog 44 [bY a0, eL none (D.int .u16) a1, eA8 (D.int .u16) a2] (.tup [eL (some 8) (eA8 (D.int .u16)) r.1, .int .i64 r.2]) := by
 refine PCall.introN td (show 3 ≤ 14 by decide) ?_
 refine aX (s0 := ⟨tab [(0, cg a0), (1, aq a1), (2, .d (eA8 (D.int .u16) a2))], ac [], 0⟩) (nr []) ?_
 refine al ⟨tab [(1, aq a1), (3, bf a0), (5, .d (.cptr (some 8) (eA8 (D.int .u16) a2) 0))], ac [], 0⟩ ?_ ?_
 ·
  iterate 4 refine q1 _ ?_
  exact nR []
 obtain ⟨r1, hr1, h⟩ := aw h
 refine al ⟨tab [(6, .d (eL (some 8) (eA8 (D.int .u16)) r1.1)), (7, vi r1.2)], ac [], 0⟩ ?_ ?_
 ·
  iterate 3 refine q1 _ ?_
  refine bx (r := .tup [eL (some 8) (eA8 (D.int .u16)) r1.1, .int .i64 r1.2]) (aI (aI (aI aS.nil'))) (uK hr1) ?_
  iterate 4 refine q1 _ ?_
  exact nR []
 have hh := ar h
 subst hh
 refine aN ?_
 show FQ _ _ _ _
 exact dF (.inr rfl) (be (v := .d (eL (some 8) (eA8 (D.int .u16)) r1.1)) rfl (be (v := vi r1.2) rfl rfl)) (RV.d (RV.d trivial))
theorem oa {a0 : cb} {a1 : (List (A8 Int))} {r : (Int × cb)} (h : kg a0 a1 = some r) : bO Try.prog 94 [.ptr 0 0 0, .d (eL (some 8) (eA8 (D.int .u16)) a1)] (ac [(0, .var [aq a0.t.Switches, aW a0.t.Links, aG a0.t.Hosts, vi a0.p.Op, vi a0.p.F, vh a0.p.N, aC a0.p.Kids, aq a0.state, .loc 1 0 a0.found.length]), (1, .lst false none (List.map (eL (some 8) (eA8 (D.int .u16))) a0.found))]) 2 (vi r.1) (ac [(0, .var [aq r.2.t.Switches, aW r.2.t.Links, aG r.2.t.Hosts, vi r.2.p.Op, vi r.2.p.F, vh r.2.p.N, aC r.2.p.Kids, aq r.2.state, .loc 2 0 r.2.found.length]), (2, .lst false none (List.map (eL (some 8) (eA8 (D.int .u16))) r.2.found))]) 3 := by
 refine bO.introN (bl := [(0, .var [aq a0.t.Switches, aW a0.t.Links, aG a0.t.Hosts, vi a0.p.Op, vi a0.p.F, vh a0.p.N, aC a0.p.Kids, aq a0.state, .loc 1 0 a0.found.length]), (1, .lst false none (List.map (eL (some 8) (eA8 (D.int .u16))) a0.found))]) (bl' := [(0, .var [aq r.2.t.Switches, aW r.2.t.Links, aG r.2.t.Hosts, vi r.2.p.Op, vi r.2.p.F, vh r.2.p.N, aC r.2.p.Kids, aq r.2.state, .loc 2 0 r.2.found.length]), (2, .lst false none (List.map (eL (some 8) (eA8 (D.int .u16))) r.2.found))]) tf (show 2 ≤ 21 by decide) rfl ?_
 refine aX (s0 := ⟨tab [(0, .ptr 0 0 0), (1, .d (eL (some 8) (eA8 (D.int .u16)) a1))], ac [(0, .var [aq a0.t.Switches, aW a0.t.Links, aG a0.t.Hosts, vi a0.p.Op, vi a0.p.F, vh a0.p.N, aC a0.p.Kids, aq a0.state, .loc 1 0 a0.found.length]), (1, .lst false none (List.map (eL (some 8) (eA8 (D.int .u16))) a0.found))], 2⟩) (nr [0, 1]) ?_
 refine al ⟨tab [(0, .ptr 0 0 0), (1, .d (eL (some 8) (eA8 (D.int .u16)) a1))], ac [(0, .var [aq a0.t.Switches, aW a0.t.Links, aG a0.t.Hosts, vi a0.p.Op, vi a0.p.F, vh a0.p.N, aC a0.p.Kids, aq a0.state, .loc 1 0 a0.found.length]), (1, .lst false none (List.map (eL (some 8) (eA8 (D.int .u16))) a0.found))], 2⟩ ?_ ?_
 ·
  refine q1 _ ?_
  exact nR [0, 1]
 refine aF ?_
 refine al ⟨tab [(0, .ptr 0 0 0), (1, .d (eL (some 8) (eA8 (D.int .u16)) a1)), (10, vb ((a0.found.length : Int) == 200))], ac [(0, .var [aq a0.t.Switches, aW a0.t.Links, aG a0.t.Hosts, vi a0.p.Op, vi a0.p.F, vh a0.p.N, aC a0.p.Kids, aq a0.state, .loc 1 0 a0.found.length]), (1, .lst false none (List.map (eL (some 8) (eA8 (D.int .u16))) a0.found))], 2⟩ ?_ ?_
 ·
  iterate 6 refine q1 _ ?_
  exact nR [0, 1]
 by_cases hc1 : ((a0.found.length : Int) == 200) = true
 ·
  replace h := aO hc1 h
  refine aU (t := ((a0.found.length : Int) == 200)) rfl hc1 ?_
  refine al ⟨tab [(4, vi 24)], ac [(0, .var [aq a0.t.Switches, aW a0.t.Links, aG a0.t.Hosts, vi a0.p.Op, vi a0.p.F, vh a0.p.N, aC a0.p.Kids, aq a0.state, .loc 1 0 a0.found.length]), (1, .lst false none (List.map (eL (some 8) (eA8 (D.int .u16))) a0.found))], 2⟩ ?_ ?_
  ·
   refine q1 _ ?_
   exact nR [0, 1]
  have hh := ar h
  subst hh
  refine aX (s0 := ⟨tab [(4, vi 24)], ac [(0, .var [aq a0.t.Switches, aW a0.t.Links, aG a0.t.Hosts, vi a0.p.Op, vi a0.p.F, vh a0.p.N, aC a0.p.Kids, aq a0.state, .loc 2 0 a0.found.length]), (2, .lst false none (List.map (eL (some 8) (eA8 (D.int .u16))) a0.found))], 3⟩) (jK [0, 1, 1] [0, 2] (by decide) rfl (by decide) (by decide) ⟨.d _, trivial⟩ ⟨⟨show 0 < 3 by decide, _, rfl, .vars ⟨.d _, .d _, .d _, .d _, .d _, .d _, .d _, .d _, .lc 2, trivial⟩⟩, ⟨show 2 < 3 by decide, _, rfl, .lst _ _ _⟩, trivial⟩) ?_
  refine aN ?_
  exact ⟨.inr rfl, _, rfl, rfl, ct.sub ⟨rfl, rfl, trivial⟩, rfl⟩
 ·
  replace h := aP hc1 h
  refine aT (t := ((a0.found.length : Int) == 200)) rfl hc1 ?_
  refine bd ?_
  obtain ⟨l2, hl2, h⟩ := aw h
  refine al ⟨tab [], ac [(0, .var [aq a0.t.Switches, aW a0.t.Links, aG a0.t.Hosts, vi a0.p.Op, vi a0.p.F, vh a0.p.N, aC a0.p.Kids, aq a0.state, .loc 2 0 l2.length]), (2, .lst false none (List.map (eL (some 8) (eA8 (D.int .u16))) l2))], 3⟩ ?_ ?_
  ·
   iterate 7 refine q1 _ ?_
   refine step (v := .loc 2 0 l2.length) (σ' := (ak (ak (ac [(0, .var [aq a0.t.Switches, aW a0.t.Links, aG a0.t.Hosts, vi a0.p.Op, vi a0.p.F, vh a0.p.N, aC a0.p.Kids, aq a0.state, .loc 1 0 a0.found.length]), (1, .lst false none (List.map (eL (some 8) (eA8 (D.int .u16))) a0.found))]) 1 none) 2 (some (.lst false none (List.map (eL (some 8) (eA8 (D.int .u16))) l2))))) (n' := 3) (eQ (xs := a0.found) (ys := ([a1] : List (List (A8 Int)))) (e := (eL (some 8) (eA8 (D.int .u16)))) hl2 rfl rfl rfl (eP (xs := ([a1] : List (List (A8 Int)))) (e := (eL (some 8) (eA8 (D.int .u16)))) rfl)) ?_
   iterate 2 refine q1 _ ?_
   refine step (v := V.undef) (σ' := (ak (ak (ak (ac [(0, .var [aq a0.t.Switches, aW a0.t.Links, aG a0.t.Hosts, vi a0.p.Op, vi a0.p.F, vh a0.p.N, aC a0.p.Kids, aq a0.state, .loc 1 0 a0.found.length]), (1, .lst false none (List.map (eL (some 8) (eA8 (D.int .u16))) a0.found))]) 1 none) 2 (some (.lst false none (List.map (eL (some 8) (eA8 (D.int .u16))) l2)))) 0 (some (.var [aq a0.t.Switches, aW a0.t.Links, aG a0.t.Hosts, vi a0.p.Op, vi a0.p.F, vh a0.p.N, aC a0.p.Kids, aq a0.state, .loc 2 0 l2.length])))) (n' := 3) rfl ?_
   exact nR [0, 1, 2]
  refine al ⟨tab [(4, vi 0)], ac [(0, .var [aq a0.t.Switches, aW a0.t.Links, aG a0.t.Hosts, vi a0.p.Op, vi a0.p.F, vh a0.p.N, aC a0.p.Kids, aq a0.state, .loc 2 0 l2.length]), (2, .lst false none (List.map (eL (some 8) (eA8 (D.int .u16))) l2))], 3⟩ ?_ ?_
  ·
   refine q1 _ ?_
   exact nR [0, 1, 2]
  have hh := ar h
  subst hh
  refine aN ?_
  exact ⟨.inr rfl, _, rfl, rfl, ct.sub ⟨rfl, rfl, trivial⟩, rfl⟩
theorem uL {a0 : (A8 Int)} {r : api_Port} (h : kh a0 = some r) : PCall Try.prog 71 [eA8 (D.int .u16) a0] (eapi_Port r) := by
 refine PCall.introN th (show 1 ≤ 8 by decide) ?_
 refine aX (s0 := ⟨tab [(0, .d (eA8 (D.int .u16) a0))], ac [], 0⟩) (nr []) ?_
 refine al ⟨tab [(1, .d (.cptr (some 8) (eA8 (D.int .u16) a0) 0)), (2, .ptr 0 0 0)], ac [(0, bJ)], 1⟩ ?_ ?_
 ·
  refine q1 _ ?_
  refine step (v := .ptr 0 0 0) (σ' := (ak (ac []) 0 (some (bJ)))) (n' := 1) rfl ?_
  exact nR [0]
 refine al ⟨tab [(2, .ptr 0 0 0)], ac [(0, .var [vh a0.a0, vh a0.a1])], 1⟩ ?_ ?_
 ·
  iterate 4 refine q1 _ ?_
  refine step (v := cq (api_Port.mk a0.a0 a0.a1)) (cO (ds := [.int .u16 a0.a0, .int .u16 a0.a1]) rfl) ?_
  refine step (v := V.undef) (σ' := (ak (ac [(0, bJ)]) 0 (some (.var [vh a0.a0, vh a0.a1])))) (n' := 1) rfl ?_
  exact nR [0]
 have hh := ar h
 subst hh
 refine aN ?_
 show FQ _ _ _ _
 exact bn (.inr rfl) (en (ds := [.int .u16 a0.a0, .int .u16 a0.a1]) rfl rfl (show 2 ≤ 2 by decide) rfl rfl) (RV.d trivial)
theorem uM {a0 : api_Topo} {a1 : api_Port} {r : (api_Port × Bool)} (h : gp a0 a1 = some r) : PCall Try.prog 72 [eapi_Topo a0, eapi_Port a1] (.tup [eapi_Port r.1, .bool r.2]) := by
 refine PCall.introN tk (show 2 ≤ 30 by decide) ?_
 refine aX (s0 := ⟨tab [(0, c7 a0), (1, cq a1)], ac [], 0⟩) (nr []) ?_
 refine al ⟨tab [(2, aZ a0), (3, bI a1), (4, .ptr 0 0 0)], ac [(0, bJ)], 1⟩ ?_ ?_
 ·
  iterate 2 refine q1 _ ?_
  refine step (v := .ptr 0 0 0) (σ' := (ak (ac []) 0 (some (bJ)))) (n' := 1) rfl ?_
  refine q1 _ ?_
  exact nR [0]
 refine aF ?_
 refine al ⟨tab [(3, bI a1), (4, .ptr 0 0 0), (9, aW a0.Links), (10, vi (a0.Links.length : Int)), (11, vi 0)], ac [(0, bJ)], 1⟩ ?_ ?_
 ·
  iterate 2 refine q1 _ ?_
  refine step (v := vi (a0.Links.length : Int)) (bG (xs := a0.Links) (e := (b9 eapi_Port)) rfl) ?_
  refine q1 _ ?_
  exact nR [0]
 obtain ⟨q10, hl, h⟩ := aw h
 refine bz ?_
 refine df (cA (a0.Links.length : Int)) (fun (i1 : Int) (qq : Unit) => ⟨tab [(3, bI a1), (4, .ptr 0 0 0), (9, aW a0.Links), (10, vi (a0.Links.length : Int)), (11, vi i1)], ac [(0, bJ)], 1⟩) 0 (fun (qq : Unit) => ⟨tab [(4, .ptr 0 0 0)], ac [(0, bJ)], 1⟩) bF cB (r := r) hl (by unfold bF; omega) ?_ ?_ ?_ ?_
 ·
  rintro i1 ⟨⟩ xr6 hinv4 hgo3 h
  show aK _ _ _ _ _ ⟨tab [(3, bI a1), (4, .ptr 0 0 0), (9, aW a0.Links), (10, vi (a0.Links.length : Int)), (11, vi i1)], ac [(0, bJ)], 1⟩
  have hc5 : decide (i1 < (a0.Links.length : Int)) = true := decide_eq_true hgo3
  refine al ⟨tab [(3, bI a1), (4, .ptr 0 0 0), (9, aW a0.Links), (10, vi (a0.Links.length : Int)), (11, vi i1), (12, vb (decide (i1 < (a0.Links.length : Int))))], ac [(0, bJ)], 1⟩ ?_ ?_
  ·
   refine q1 _ ?_
   exact nR [0]
  refine cz 10 rfl fun hB2 => ?_
  refine aF ?_
  refine aU (t := decide (i1 < (a0.Links.length : Int))) rfl hc5 ?_
  refine bd ?_
  refine aF ?_
  refine bz ?_
  obtain ⟨x7, hx7, h⟩ := aw h
  refine al ⟨tab [(3, bI a1), (4, .ptr 0 0 0), (7, .ptr 1 0 0), (9, aW a0.Links), (10, vi (a0.Links.length : Int)), (11, vi i1)], ac [(0, bJ), (1, .var [vh x7.a0.Sw, vh x7.a0.Pt, vh x7.a1.Sw, vh x7.a1.Pt])], 2⟩ ?_ ?_
  ·
   refine step (v := .d (.cptr (some 4) (b9 eapi_Port x7) 0)) (b4 (xs := a0.Links) (e := (b9 eapi_Port)) hx7 rfl rfl) ?_
   refine q1 _ ?_
   refine step (v := .ptr 1 0 0) (σ' := (ak (ac [(0, bJ)]) 1 (some (.var [vh 0, vh 0, vh 0, vh 0])))) (n' := 2) rfl ?_
   refine step (v := V.undef) (σ' := (ak (ak (ac [(0, bJ)]) 1 (some (.var [vh 0, vh 0, vh 0, vh 0]))) 1 (some (.var [vh x7.a0.Sw, vh x7.a0.Pt, vh x7.a1.Sw, vh x7.a1.Pt])))) (n' := 2) rfl ?_
   exact nR [0, 1]
  refine al ⟨tab [(3, bI a1), (4, .ptr 0 0 0), (7, .ptr 1 0 0), (9, aW a0.Links), (10, vi (a0.Links.length : Int)), (11, vi i1), (15, cq a1)], ac [(0, bJ), (1, .var [vh x7.a0.Sw, vh x7.a0.Pt, vh x7.a1.Sw, vh x7.a1.Pt])], 2⟩ ?_ ?_
  ·
   refine q1 _ ?_
   exact nR [0, 1]
  refine bz ?_
  refine al ⟨tab [(3, bI a1), (4, .ptr 0 0 0), (7, .ptr 1 0 0), (9, aW a0.Links), (10, vi (a0.Links.length : Int)), (11, vi i1), (15, cq a1), (16, vb (a1 == x7.a0))], ac [(0, bJ), (1, .var [vh x7.a0.Sw, vh x7.a0.Pt, vh x7.a1.Sw, vh x7.a1.Pt])], 2⟩ ?_ ?_
  ·
   refine q1 _ ?_
   refine step (v := cq x7.a0) (b5 (ds := [.int .u16 x7.a0.Sw, .int .u16 x7.a0.Pt]) rfl rfl (show 2 ≤ 4 by decide) rfl) ?_
   refine step (v := vb (a1 == x7.a0)) (dD (neg := false) rfl rfl (fT a1 x7.a0)) ?_
   refine q1 _ ?_
   exact nR [0, 1]
  by_cases hc8 : (a1 == x7.a0) = true
  ·
   replace h := aO hc8 h
   refine aU (t := (a1 == x7.a0)) rfl hc8 ?_
   refine al ⟨tab [(4, .ptr 0 0 0), (5, vb true)], ac [(0, .var [vh x7.a1.Sw, vh x7.a1.Pt])], 1⟩ ?_ ?_
   ·
    refine q1 _ ?_
    refine step (v := cq x7.a1) (b5 (ds := [.int .u16 x7.a1.Sw, .int .u16 x7.a1.Pt]) rfl rfl (show 4 ≤ 4 by decide) rfl) ?_
    refine step (v := V.undef) (σ' := (ak (ac [(0, bJ), (1, .var [vh x7.a0.Sw, vh x7.a0.Pt, vh x7.a1.Sw, vh x7.a1.Pt])]) 0 (some (.var [vh x7.a1.Sw, vh x7.a1.Pt])))) (n' := 2) rfl ?_
    refine q1 _ ?_
    exact nR [0]
   obtain ⟨r9, kr9, hr⟩ := co (o := some (x7.a1, true)) (g := Br.ret) h
   subst hr
   have h := kr9
   have hh := ar h
   subst hh
   refine aN ?_
   refine And.intro (fun hn => nomatch hn) ?_
   intro hq
   have hq := hq.symm
   subst hq
   show FQ _ _ _ _
   exact dF (.inr rfl) (en (ds := [.int .u16 x7.a1.Sw, .int .u16 x7.a1.Pt]) rfl rfl (show 2 ≤ 2 by decide) rfl (be (v := vb true) rfl rfl)) (RV.d (RV.d trivial))
  ·
   replace h := aP hc8 h
   refine aT (t := (a1 == x7.a0)) rfl hc8 ?_
   refine al ⟨tab [(3, bI a1), (4, .ptr 0 0 0), (7, .ptr 1 0 0), (9, aW a0.Links), (10, vi (a0.Links.length : Int)), (11, vi i1), (22, vb (a1 == x7.a1))], ac [(0, bJ), (1, .var [vh x7.a0.Sw, vh x7.a0.Pt, vh x7.a1.Sw, vh x7.a1.Pt])], 2⟩ ?_ ?_
   ·
    refine q1 _ ?_
    refine step (v := cq x7.a1) (b5 (ds := [.int .u16 x7.a1.Sw, .int .u16 x7.a1.Pt]) rfl rfl (show 4 ≤ 4 by decide) rfl) ?_
    refine step (v := vb (a1 == x7.a1)) (dD (neg := false) rfl rfl (fT a1 x7.a1)) ?_
    refine q1 _ ?_
    exact nR [0, 1]
   by_cases hc9 : (a1 == x7.a1) = true
   ·
    replace h := aO hc9 h
    refine aU (t := (a1 == x7.a1)) rfl hc9 ?_
    refine al ⟨tab [(4, .ptr 0 0 0), (5, vb true)], ac [(0, .var [vh x7.a0.Sw, vh x7.a0.Pt])], 1⟩ ?_ ?_
    ·
     refine q1 _ ?_
     refine step (v := cq x7.a0) (b5 (ds := [.int .u16 x7.a0.Sw, .int .u16 x7.a0.Pt]) rfl rfl (show 2 ≤ 4 by decide) rfl) ?_
     refine step (v := V.undef) (σ' := (ak (ac [(0, bJ), (1, .var [vh x7.a0.Sw, vh x7.a0.Pt, vh x7.a1.Sw, vh x7.a1.Pt])]) 0 (some (.var [vh x7.a0.Sw, vh x7.a0.Pt])))) (n' := 2) rfl ?_
     refine q1 _ ?_
     exact nR [0]
    obtain ⟨r10, kr10, hr⟩ := co (o := some (x7.a0, true)) (g := Br.ret) h
    subst hr
    have h := kr10
    have hh := ar h
    subst hh
    refine aN ?_
    refine And.intro (fun hn => nomatch hn) ?_
    intro hq
    have hq := hq.symm
    subst hq
    show FQ _ _ _ _
    exact dF (.inr rfl) (en (ds := [.int .u16 x7.a0.Sw, .int .u16 x7.a0.Pt]) rfl rfl (show 2 ≤ 2 by decide) rfl (be (v := vb true) rfl rfl)) (RV.d (RV.d trivial))
   ·
    replace h := aP hc9 h
    refine aT (t := (a1 == x7.a1)) rfl hc9 ?_
    refine bd ?_
    have hh := ar h
    subst hh
    refine bT ⟨tab [(3, bI a1), (4, .ptr 0 0 0), (9, aW a0.Links), (10, vi (a0.Links.length : Int)), (11, vi (i1 + 1))], ac [(0, bJ)], 1⟩ ?_ ?_
    ·
     refine step (v := vi (i1 + 1)) (cC (cD hinv4 hgo3 hB2) rfl rfl) ?_
     refine q1 _ ?_
     exact nR [0]
    exact And.intro rfl rfl
 ·
  rintro i1 ⟨⟩ hinv4 hgo3
  show aK _ _ _ _ _ ⟨tab [(3, bI a1), (4, .ptr 0 0 0), (9, aW a0.Links), (10, vi (a0.Links.length : Int)), (11, vi i1)], ac [(0, bJ)], 1⟩
  have hc5 : ¬ (decide (i1 < (a0.Links.length : Int)) = true) := fun hq => hgo3 (of_decide_eq_true hq)
  refine al ⟨tab [(3, bI a1), (4, .ptr 0 0 0), (9, aW a0.Links), (10, vi (a0.Links.length : Int)), (11, vi i1), (12, vb (decide (i1 < (a0.Links.length : Int))))], ac [(0, bJ)], 1⟩ ?_ ?_
  ·
   refine q1 _ ?_
   exact nR [0]
  refine aF ?_
  refine aT (t := decide (i1 < (a0.Links.length : Int))) rfl hc5 ?_
  refine aX (s0 := ⟨tab [(4, .ptr 0 0 0)], ac [(0, bJ)], 1⟩) (nr [0]) ?_
  refine cn ?_
  exact And.intro rfl rfl
 ·
  intro r' hq
  subst hq
  exact ar h
 rintro ⟨⟩ rfl
 refine al ⟨tab [(4, .ptr 0 0 0), (5, vb false)], ac [(0, bJ)], 1⟩ ?_ ?_
 ·
  refine step (v := cq (api_Port.mk 0 0)) (cO (ds := [.int .u16 0, .int .u16 0]) rfl) ?_
  refine step (v := V.undef) (σ' := (ak (ac [(0, bJ)]) 0 (some (bJ)))) (n' := 1) rfl ?_
  refine q1 _ ?_
  exact nR [0]
 have hh := ar h
 subst hh
 refine aN ?_
 show FQ _ _ _ _
 exact dF (.inr rfl) (en (ds := [.int .u16 0, .int .u16 0]) rfl rfl (show 2 ≤ 2 by decide) rfl (be (v := vb false) rfl rfl)) (RV.d (RV.d trivial))
theorem uN {a0 : (A8 Int)} {a1 : api_Port} {r : (A8 Int)} (h : ki a0 a1 = some r) : PCall Try.prog 73 [eA8 (D.int .u16) a0, eapi_Port a1] (eA8 (D.int .u16) r) := by
 refine PCall.introN tn (show 2 ≤ 12 by decide) ?_
 refine aX (s0 := ⟨tab [(0, .d (eA8 (D.int .u16) a0)), (1, cq a1)], ac [], 0⟩) (nr []) ?_
 refine al ⟨tab [(2, .ptr 0 0 0), (3, bI a1), (4, .ptr 1 0 0)], ac [(0, .var [vh a0.a0, vh a0.a1, vh a0.a2, vh a0.a3, vh a0.a4, vh a0.a5, vh a0.a6, vh a0.a7]), (1, bR)], 2⟩ ?_ ?_
 ·
  refine step (v := .ptr 0 0 0) (σ' := (ak (ac []) 0 (some (.var [vh a0.a0, vh a0.a1, vh a0.a2, vh a0.a3, vh a0.a4, vh a0.a5, vh a0.a6, vh a0.a7])))) (n' := 1) rfl ?_
  refine q1 _ ?_
  refine step (v := .ptr 1 0 0) (σ' := (ak (ak (ac []) 0 (some (.var [vh a0.a0, vh a0.a1, vh a0.a2, vh a0.a3, vh a0.a4, vh a0.a5, vh a0.a6, vh a0.a7]))) 1 (some (bR)))) (n' := 2) rfl ?_
  exact nR [0, 1]
 refine al ⟨tab [(2, .ptr 0 0 0), (4, .ptr 1 0 0)], ac [(0, .var [vh a1.Sw, vh a1.Pt, vh a0.a2, vh a0.a3, vh a0.a4, vh a0.a5, vh a0.a6, vh a0.a7]), (1, bR)], 2⟩ ?_ ?_
 ·
  iterate 5 refine q1 _ ?_
  refine step (v := V.undef) (σ' := (ak (ac [(0, .var [vh a0.a0, vh a0.a1, vh a0.a2, vh a0.a3, vh a0.a4, vh a0.a5, vh a0.a6, vh a0.a7]), (1, bR)]) 0 (some (.var [vh a1.Sw, vh a0.a1, vh a0.a2, vh a0.a3, vh a0.a4, vh a0.a5, vh a0.a6, vh a0.a7])))) (n' := 2) rfl ?_
  refine q1 _ ?_
  refine step (v := V.undef) (σ' := (ak (ak (ac [(0, .var [vh a0.a0, vh a0.a1, vh a0.a2, vh a0.a3, vh a0.a4, vh a0.a5, vh a0.a6, vh a0.a7]), (1, bR)]) 0 (some (.var [vh a1.Sw, vh a0.a1, vh a0.a2, vh a0.a3, vh a0.a4, vh a0.a5, vh a0.a6, vh a0.a7]))) 0 (some (.var [vh a1.Sw, vh a1.Pt, vh a0.a2, vh a0.a3, vh a0.a4, vh a0.a5, vh a0.a6, vh a0.a7])))) (n' := 2) rfl ?_
  exact nR [0, 1]
 refine al ⟨tab [(4, .ptr 0 0 0)], ac [(0, .var [vh a1.Sw, vh a1.Pt, vh a0.a2, vh a0.a3, vh a0.a4, vh a0.a5, vh a0.a6, vh a0.a7])], 1⟩ ?_ ?_
 ·
  refine step (v := .d (eA8 (D.int .u16) (A8.mk a1.Sw a1.Pt a0.a2 a0.a3 a0.a4 a0.a5 a0.a6 a0.a7))) (b5 (ds := [.int .u16 a1.Sw, .int .u16 a1.Pt, .int .u16 a0.a2, .int .u16 a0.a3, .int .u16 a0.a4, .int .u16 a0.a5, .int .u16 a0.a6, .int .u16 a0.a7]) rfl rfl (show 8 ≤ 8 by decide) rfl) ?_
  refine step (v := V.undef) (σ' := (ak (ac [(0, .var [vh a1.Sw, vh a1.Pt, vh a0.a2, vh a0.a3, vh a0.a4, vh a0.a5, vh a0.a6, vh a0.a7]), (1, bR)]) 1 (some (.var [vh a1.Sw, vh a1.Pt, vh a0.a2, vh a0.a3, vh a0.a4, vh a0.a5, vh a0.a6, vh a0.a7])))) (n' := 2) rfl ?_
  exact nR [1]
 have hh := ar h
 subst hh
 refine aN ?_
 show FQ _ _ _ _
 exact bn (.inr rfl) (en (ds := [.int .u16 a1.Sw, .int .u16 a1.Pt, .int .u16 a0.a2, .int .u16 a0.a3, .int .u16 a0.a4, .int .u16 a0.a5, .int .u16 a0.a6, .int .u16 a0.a7]) rfl rfl (show 8 ≤ 8 by decide) rfl rfl) (RV.d trivial)
theorem uO {a0 : (List api_Port)} {a1 : api_Port} {r : Int} (h : kl a0 a1 = some r) : PCall Try.prog 108 [eL (some 2) eapi_Port a0, eapi_Port a1] (.int .i64 r) := by
 refine PCall.introN tr (show 2 ≤ 19 by decide) ?_
 refine aX (s0 := ⟨tab [(0, aG a0), (1, cq a1)], ac [], 0⟩) (nr []) ?_
 refine al ⟨tab [(0, aG a0), (3, bI a1)], ac [], 0⟩ ?_ ?_
 ·
  iterate 2 refine q1 _ ?_
  exact nR []
 refine aF ?_
 refine al ⟨tab [(0, aG a0), (3, bI a1), (7, vi (a0.length : Int)), (8, vi 0)], ac [], 0⟩ ?_ ?_
 ·
  refine q1 _ ?_
  refine step (v := vi (a0.length : Int)) (bG (xs := a0) (e := eapi_Port) rfl) ?_
  refine q1 _ ?_
  exact nR []
 obtain ⟨q9, hl, h⟩ := aw h
 refine bz ?_
 refine df (cA (a0.length : Int)) (fun (i1 : Int) (qq : Unit) => ⟨tab [(0, aG a0), (3, bI a1), (7, vi (a0.length : Int)), (8, vi i1)], ac [], 0⟩) 0 (fun (qq : Unit) => ⟨tab [], ac [], 0⟩) bF cB (r := r) hl (by unfold bF; omega) ?_ ?_ ?_ ?_
 ·
  rintro i1 ⟨⟩ xr6 hinv4 hgo3 h
  show aK _ _ _ _ _ ⟨tab [(0, aG a0), (3, bI a1), (7, vi (a0.length : Int)), (8, vi i1)], ac [], 0⟩
  have hc5 : decide (i1 < (a0.length : Int)) = true := decide_eq_true hgo3
  refine al ⟨tab [(0, aG a0), (3, bI a1), (7, vi (a0.length : Int)), (8, vi i1), (9, vb (decide (i1 < (a0.length : Int))))], ac [], 0⟩ ?_ ?_
  ·
   refine q1 _ ?_
   exact nR []
  refine cz 7 rfl fun hB2 => ?_
  refine aF ?_
  refine aU (t := decide (i1 < (a0.length : Int))) rfl hc5 ?_
  refine bd ?_
  refine aF ?_
  refine bz ?_
  refine al ⟨tab [(0, aG a0), (3, bI a1), (5, vi i1), (7, vi (a0.length : Int)), (8, vi i1)], ac [], 0⟩ ?_ ?_
  ·
   iterate 2 refine q1 _ ?_
   exact nR []
  obtain ⟨x7, hx7, h⟩ := aw h
  refine al ⟨tab [(0, aG a0), (3, bI a1), (5, vi i1), (7, vi (a0.length : Int)), (8, vi i1), (16, vb (a1 == x7))], ac [], 0⟩ ?_ ?_
  ·
   iterate 3 refine q1 _ ?_
   refine step (v := bI x7) (b4 (xs := a0) (e := eapi_Port) hx7 rfl rfl) ?_
   refine q1 _ ?_
   refine step (v := vb (a1 == x7)) (dD (neg := false) rfl rfl (fT a1 x7)) ?_
   exact nR []
  by_cases hc8 : (a1 == x7) = true
  ·
   replace h := aO hc8 h
   refine aU (t := (a1 == x7)) rfl hc8 ?_
   refine al ⟨tab [(4, vi i1)], ac [], 0⟩ ?_ ?_
   ·
    iterate 2 refine q1 _ ?_
    exact nR []
   obtain ⟨r9, kr9, hr⟩ := co (o := some i1) (g := Br.ret) h
   subst hr
   have h := kr9
   have hh := ar h
   subst hh
   refine aN ?_
   refine And.intro (fun hn => nomatch hn) ?_
   intro hq
   have hq := hq.symm
   subst hq
   show FQ _ _ _ _
   exact bn (.inr rfl) (be (v := vi i1) rfl rfl) (RV.d trivial)
  ·
   replace h := aP hc8 h
   refine aT (t := (a1 == x7)) rfl hc8 ?_
   refine bd ?_
   have hh := ar h
   subst hh
   refine bT ⟨tab [(0, aG a0), (3, bI a1), (7, vi (a0.length : Int)), (8, vi (i1 + 1))], ac [], 0⟩ ?_ ?_
   ·
    refine step (v := vi (i1 + 1)) (cC (cD hinv4 hgo3 hB2) rfl rfl) ?_
    refine q1 _ ?_
    exact nR []
   exact And.intro rfl rfl
 ·
  rintro i1 ⟨⟩ hinv4 hgo3
  show aK _ _ _ _ _ ⟨tab [(0, aG a0), (3, bI a1), (7, vi (a0.length : Int)), (8, vi i1)], ac [], 0⟩
  have hc5 : ¬ (decide (i1 < (a0.length : Int)) = true) := fun hq => hgo3 (of_decide_eq_true hq)
  refine al ⟨tab [(0, aG a0), (3, bI a1), (7, vi (a0.length : Int)), (8, vi i1), (9, vb (decide (i1 < (a0.length : Int))))], ac [], 0⟩ ?_ ?_
  ·
   refine q1 _ ?_
   exact nR []
  refine aF ?_
  refine aT (t := decide (i1 < (a0.length : Int))) rfl hc5 ?_
  refine aX (s0 := ⟨tab [], ac [], 0⟩) (nr []) ?_
  refine cn ?_
  exact And.intro rfl rfl
 ·
  intro r' hq
  subst hq
  exact ar h
 rintro ⟨⟩ rfl
 refine al ⟨tab [(4, vi (-1))], ac [], 0⟩ ?_ ?_
 ·
  refine q1 _ ?_
  exact nR []
 have hh := ar h
 subst hh
 refine aN ?_
 show FQ _ _ _ _
 exact bn (.inr rfl) (be (v := vi (-1)) rfl rfl) (RV.d trivial)
theorem uP {a0 : (List api_Port)} {a1 : api_Port} {r : Bool} (h : km a0 a1 = some r) : PCall Try.prog 96 [eL (some 2) eapi_Port a0, eapi_Port a1] (.bool r) := by
 refine PCall.introN tv (show 2 ≤ 9 by decide) ?_
 refine aX (s0 := ⟨tab [(0, aG a0), (1, cq a1)], ac [], 0⟩) (nr []) ?_
 refine al ⟨tab [(0, aG a0), (3, bI a1)], ac [], 0⟩ ?_ ?_
 ·
  iterate 2 refine q1 _ ?_
  exact nR []
 obtain ⟨r1, hr1, h⟩ := aw h
 refine al ⟨tab [(4, vb (decide (r1 ≥ 0)))], ac [], 0⟩ ?_ ?_
 ·
  iterate 2 refine q1 _ ?_
  refine bx (r := .int .i64 r1) (aI (aI aS.nil')) (uO hr1) ?_
  iterate 2 refine q1 _ ?_
  exact nR []
 have hh := ar h
 subst hh
 refine aN ?_
 show FQ _ _ _ _
 exact bn (.inr rfl) (be (v := vb (decide (r1 ≥ 0))) rfl rfl) (RV.d trivial)
theorem uQ {a0 : api_Topo} {a1 : api_Port} {r : Bool} (h : iK a0 a1 = some r) : PCall Try.prog 74 [eapi_Topo a0, eapi_Port a1] (.bool r) := by
 refine PCall.introN tx (show 2 ≤ 9 by decide) ?_
 refine aX (s0 := ⟨tab [(0, c7 a0), (1, cq a1)], ac [], 0⟩) (nr []) ?_
 refine al ⟨tab [(2, aZ a0), (3, bI a1)], ac [], 0⟩ ?_ ?_
 ·
  iterate 3 refine q1 _ ?_
  exact nR []
 obtain ⟨r1, hr1, h⟩ := aw h
 refine al ⟨tab [(4, vb r1)], ac [], 0⟩ ?_ ?_
 ·
  iterate 3 refine q1 _ ?_
  refine bx (r := .bool r1) (aI (aI aS.nil')) (uP hr1) ?_
  refine q1 _ ?_
  exact nR []
 have hh := ar h
 subst hh
 refine aN ?_
 show FQ _ _ _ _
 exact bn (.inr rfl) (be (v := vb r1) rfl rfl) (RV.d trivial)
theorem hE {a0 : api_Topo} {a1 : (A8 Int)} {r : ((A8 Int) × Int)} (h : ft a0 a1 = some r) : PCall Try.prog 45 [eapi_Topo a0, eA8 (D.int .u16) a1] (.tup [eA8 (D.int .u16) r.1, .int .i64 r.2]) := by
 refine PCall.introN tA (show 2 ≤ 26 by decide) ?_
 refine aX (s0 := ⟨tab [(0, c7 a0), (1, .d (eA8 (D.int .u16) a1))], ac [], 0⟩) (nr []) ?_
 refine al ⟨tab [(2, aZ a0), (3, .d (.cptr (some 8) (eA8 (D.int .u16) a1) 0)), (4, .ptr 0 0 0)], ac [(0, bR)], 1⟩ ?_ ?_
 ·
  iterate 2 refine q1 _ ?_
  refine step (v := .ptr 0 0 0) (σ' := (ak (ac []) 0 (some (bR)))) (n' := 1) rfl ?_
  refine q1 _ ?_
  exact nR [0]
 obtain ⟨r1, hr1, h⟩ := aw h
 refine al ⟨tab [(2, aZ a0), (3, .d (.cptr (some 8) (eA8 (D.int .u16) a1) 0)), (4, .ptr 0 0 0), (6, .ptr 1 0 0)], ac [(0, bR), (1, .var [vh r1.Sw, vh r1.Pt])], 2⟩ ?_ ?_
 ·
  refine q1 _ ?_
  refine bx (r := eapi_Port r1) (aI aS.nil') (uL hr1) ?_
  refine step (v := .ptr 1 0 0) (σ' := (ak (ac [(0, bR)]) 1 (some (bJ)))) (n' := 2) rfl ?_
  refine step (v := V.undef) (σ' := (ak (ak (ac [(0, bR)]) 1 (some (bJ))) 1 (some (.var [vh r1.Sw, vh r1.Pt])))) (n' := 2) rfl ?_
  exact nR [0, 1]
 refine aF ?_
 obtain ⟨r2, hr2, h⟩ := aw h
 refine al ⟨tab [(2, aZ a0), (3, .d (.cptr (some 8) (eA8 (D.int .u16) a1) 0)), (4, .ptr 0 0 0), (6, .ptr 1 0 0), (7, .ptr 2 0 0), (8, vb r2.2)], ac [(0, bR), (1, .var [vh r1.Sw, vh r1.Pt]), (2, .var [vh r2.1.Sw, vh r2.1.Pt])], 3⟩ ?_ ?_
 ·
  refine q1 _ ?_
  refine step (v := cq r1) (b5 (ds := [.int .u16 r1.Sw, .int .u16 r1.Pt]) rfl rfl (show 2 ≤ 2 by decide) rfl) ?_
  refine bx (r := .tup [eapi_Port r2.1, .bool r2.2]) (aI (aI aS.nil')) (uM hr2) ?_
  iterate 3 refine q1 _ ?_
  refine step (v := .ptr 2 0 0) (σ' := (ak (ac [(0, bR), (1, .var [vh r1.Sw, vh r1.Pt])]) 2 (some (bJ)))) (n' := 3) rfl ?_
  refine step (v := V.undef) (σ' := (ak (ak (ac [(0, bR), (1, .var [vh r1.Sw, vh r1.Pt])]) 2 (some (bJ))) 2 (some (.var [vh r2.1.Sw, vh r2.1.Pt])))) (n' := 3) rfl ?_
  refine q1 _ ?_
  exact nR [0, 1, 2]
 refine al ⟨tab [(2, aZ a0), (3, .d (.cptr (some 8) (eA8 (D.int .u16) a1) 0)), (4, .ptr 0 0 0), (6, .ptr 1 0 0), (7, .ptr 2 0 0), (17, vb r2.2)], ac [(0, bR), (1, .var [vh r1.Sw, vh r1.Pt]), (2, .var [vh r2.1.Sw, vh r2.1.Pt])], 3⟩ ?_ ?_
 ·
  refine q1 _ ?_
  exact nR [0, 1, 2]
 by_cases hc3 : r2.2 = true
 ·
  replace h := aO hc3 h
  refine aU (t := r2.2) rfl hc3 ?_
  obtain ⟨r4, hr4, h⟩ := aw h
  refine al ⟨tab [(4, .ptr 0 0 0), (5, vi 0)], ac [(0, .var [vh r4.a0, vh r4.a1, vh r4.a2, vh r4.a3, vh r4.a4, vh r4.a5, vh r4.a6, vh r4.a7])], 1⟩ ?_ ?_
  ·
   refine q1 _ ?_
   refine step (v := cq r2.1) (b5 (ds := [.int .u16 r2.1.Sw, .int .u16 r2.1.Pt]) rfl rfl (show 2 ≤ 2 by decide) rfl) ?_
   refine bx (r := eA8 (D.int .u16) r4) (aI (aI aS.nil')) (uN hr4) ?_
   refine step (v := V.undef) (σ' := (ak (ac [(0, bR), (1, .var [vh r1.Sw, vh r1.Pt]), (2, .var [vh r2.1.Sw, vh r2.1.Pt])]) 0 (some (.var [vh r4.a0, vh r4.a1, vh r4.a2, vh r4.a3, vh r4.a4, vh r4.a5, vh r4.a6, vh r4.a7])))) (n' := 3) rfl ?_
   refine q1 _ ?_
   exact nR [0]
  have hh := ar h
  subst hh
  refine aN ?_
  show FQ _ _ _ _
  exact dF (.inr rfl) (en (ds := [.int .u16 r4.a0, .int .u16 r4.a1, .int .u16 r4.a2, .int .u16 r4.a3, .int .u16 r4.a4, .int .u16 r4.a5, .int .u16 r4.a6, .int .u16 r4.a7]) rfl rfl (show 8 ≤ 8 by decide) rfl (be (v := vi 0) rfl rfl)) (RV.d (RV.d trivial))
 ·
  replace h := aP hc3 h
  refine aT (t := r2.2) rfl hc3 ?_
  refine bd ?_
  refine aF ?_
  obtain ⟨r5, hr5, h⟩ := aw h
  refine al ⟨tab [(3, .d (.cptr (some 8) (eA8 (D.int .u16) a1) 0)), (4, .ptr 0 0 0), (23, vb r5)], ac [(0, bR)], 1⟩ ?_ ?_
  ·
   refine q1 _ ?_
   refine step (v := cq r1) (b5 (ds := [.int .u16 r1.Sw, .int .u16 r1.Pt]) rfl rfl (show 2 ≤ 2 by decide) rfl) ?_
   refine bx (r := .bool r5) (aI (aI aS.nil')) (uQ hr5) ?_
   exact nR [0]
  by_cases hc6 : r5 = true
  ·
   replace h := aO hc6 h
   refine aU (t := r5) rfl hc6 ?_
   refine al ⟨tab [(4, .ptr 0 0 0), (5, vi 1)], ac [(0, .var [vh a1.a0, vh a1.a1, vh a1.a2, vh a1.a3, vh a1.a4, vh a1.a5, vh a1.a6, vh a1.a7])], 1⟩ ?_ ?_
   ·
    refine q1 _ ?_
    refine step (v := V.undef) (σ' := (ak (ac [(0, bR)]) 0 (some (.var [vh a1.a0, vh a1.a1, vh a1.a2, vh a1.a3, vh a1.a4, vh a1.a5, vh a1.a6, vh a1.a7])))) (n' := 1) rfl ?_
    refine q1 _ ?_
    exact nR [0]
   have hh := ar h
   subst hh
   refine aN ?_
   show FQ _ _ _ _
   exact dF (.inr rfl) (en (ds := [.int .u16 a1.a0, .int .u16 a1.a1, .int .u16 a1.a2, .int .u16 a1.a3, .int .u16 a1.a4, .int .u16 a1.a5, .int .u16 a1.a6, .int .u16 a1.a7]) rfl rfl (show 8 ≤ 8 by decide) rfl (be (v := vi 1) rfl rfl)) (RV.d (RV.d trivial))
  ·
   replace h := aP hc6 h
   refine aT (t := r5) rfl hc6 ?_
   refine bd ?_
   refine al ⟨tab [(4, .ptr 0 0 0), (5, vi 2)], ac [(0, .var [vh a1.a0, vh a1.a1, vh a1.a2, vh a1.a3, vh a1.a4, vh a1.a5, vh a1.a6, vh a1.a7])], 1⟩ ?_ ?_
   ·
    refine q1 _ ?_
    refine step (v := V.undef) (σ' := (ak (ac [(0, bR)]) 0 (some (.var [vh a1.a0, vh a1.a1, vh a1.a2, vh a1.a3, vh a1.a4, vh a1.a5, vh a1.a6, vh a1.a7])))) (n' := 1) rfl ?_
    refine q1 _ ?_
    exact nR [0]
   have hh := ar h
   subst hh
   refine aN ?_
   show FQ _ _ _ _
   exact dF (.inr rfl) (en (ds := [.int .u16 a1.a0, .int .u16 a1.a1, .int .u16 a1.a2, .int .u16 a1.a3, .int .u16 a1.a4, .int .u16 a1.a5, .int .u16 a1.a6, .int .u16 a1.a7]) rfl rfl (show 8 ≤ 8 by decide) rfl (be (v := vi 2) rfl rfl)) (RV.d (RV.d trivial))
theorem uR {self : cb → (List (A8 Int)) → (A8 Int) → Option (Int × cb)} (hself : ∀ (a0 : cb) (a1 : (List (A8 Int))) (a2 : (A8 Int)) (r : (Int × cb)), self a0 a1 a2 = some r → bO Try.prog 68 [.ptr 0 0 0, .d (eL (some 8) (eA8 (D.int .u16)) a1), .d (eA8 (D.int .u16) a2)] (ac [(0, .var [aq a0.t.Switches, aW a0.t.Links, aG a0.t.Hosts, vi a0.p.Op, vi a0.p.F, vh a0.p.N, aC a0.p.Kids, aq a0.state, .loc 1 0 a0.found.length]), (1, .lst false none (List.map (eL (some 8) (eA8 (D.int .u16))) a0.found))]) 2 (vi r.1) (ac [(0, .var [aq r.2.t.Switches, aW r.2.t.Links, aG r.2.t.Hosts, vi r.2.p.Op, vi r.2.p.F, vh r.2.p.N, aC r.2.p.Kids, aq r.2.state, .loc 2 0 r.2.found.length]), (2, .lst false none (List.map (eL (some 8) (eA8 (D.int .u16))) r.2.found))]) 3) {a0 : cb} {a1 : (List (A8 Int))} {a2 : (A8 Int)} {r : (Int × cb)} (h : nj self a0 a1 a2 = some r) : bO Try.prog 68 [.ptr 0 0 0, .d (eL (some 8) (eA8 (D.int .u16)) a1), .d (eA8 (D.int .u16) a2)] (ac [(0, .var [aq a0.t.Switches, aW a0.t.Links, aG a0.t.Hosts, vi a0.p.Op, vi a0.p.F, vh a0.p.N, aC a0.p.Kids, aq a0.state, .loc 1 0 a0.found.length]), (1, .lst false none (List.map (eL (some 8) (eA8 (D.int .u16))) a0.found))]) 2 (vi r.1) (ac [(0, .var [aq r.2.t.Switches, aW r.2.t.Links, aG r.2.t.Hosts, vi r.2.p.Op, vi r.2.p.F, vh r.2.p.N, aC r.2.p.Kids, aq r.2.state, .loc 2 0 r.2.found.length]), (2, .lst false none (List.map (eL (some 8) (eA8 (D.int .u16))) r.2.found))]) 3 := by
 refine bO.introN (bl := [(0, .var [aq a0.t.Switches, aW a0.t.Links, aG a0.t.Hosts, vi a0.p.Op, vi a0.p.F, vh a0.p.N, aC a0.p.Kids, aq a0.state, .loc 1 0 a0.found.length]), (1, .lst false none (List.map (eL (some 8) (eA8 (D.int .u16))) a0.found))]) (bl' := [(0, .var [aq r.2.t.Switches, aW r.2.t.Links, aG r.2.t.Hosts, vi r.2.p.Op, vi r.2.p.F, vh r.2.p.N, aC r.2.p.Kids, aq r.2.state, .loc 2 0 r.2.found.length]), (2, .lst false none (List.map (eL (some 8) (eA8 (D.int .u16))) r.2.found))]) tD (show 3 ≤ 81 by decide) rfl ?_
 refine aX (s0 := ⟨tab [(0, .ptr 0 0 0), (1, .d (eL (some 8) (eA8 (D.int .u16)) a1)), (2, .d (eA8 (D.int .u16) a2))], ac [(0, .var [aq a0.t.Switches, aW a0.t.Links, aG a0.t.Hosts, vi a0.p.Op, vi a0.p.F, vh a0.p.N, aC a0.p.Kids, aq a0.state, .loc 1 0 a0.found.length]), (1, .lst false none (List.map (eL (some 8) (eA8 (D.int .u16))) a0.found))], 2⟩) (nr [0, 1]) ?_
 refine al ⟨tab [(0, .ptr 0 0 0), (1, .d (eL (some 8) (eA8 (D.int .u16)) a1)), (5, .d (.cptr (some 8) (eA8 (D.int .u16) a2) 0))], ac [(0, .var [aq a0.t.Switches, aW a0.t.Links, aG a0.t.Hosts, vi a0.p.Op, vi a0.p.F, vh a0.p.N, aC a0.p.Kids, aq a0.state, .loc 1 0 a0.found.length]), (1, .lst false none (List.map (eL (some 8) (eA8 (D.int .u16))) a0.found))], 2⟩ ?_ ?_
 ·
  iterate 2 refine q1 _ ?_
  exact nR [0, 1]
 obtain ⟨r1, hr1, h⟩ := aw h
 obtain ⟨l2, hl2, h⟩ := aw h
 refine al ⟨tab [(0, .ptr 0 0 0), (1, .d (eL (some 8) (eA8 (D.int .u16)) l2)), (5, .d (.cptr (some 8) (eA8 (D.int .u16) a2) 0))], ac [(0, .var [aq a0.t.Switches, aW a0.t.Links, aG a0.t.Hosts, vi a0.p.Op, vi a0.p.F, vh a0.p.N, aC a0.p.Kids, aq a0.state, .loc 1 0 a0.found.length]), (1, .lst false none (List.map (eL (some 8) (eA8 (D.int .u16))) a0.found))], 2⟩ ?_ ?_
 ·
  refine q1 _ ?_
  refine eB (v := .loc 2 0 r1.length) (σ' := (ak (ac [(0, .var [aq a0.t.Switches, aW a0.t.Links, aG a0.t.Hosts, vi a0.p.Op, vi a0.p.F, vh a0.p.N, aC a0.p.Kids, aq a0.state, .loc 1 0 a0.found.length]), (1, .lst false none (List.map (eL (some 8) (eA8 (D.int .u16))) a0.found))]) 2 (some (.lst false (some 8) (List.map (eA8 (D.int .u16)) r1))))) (n' := 3) (eC [] (bO.frz (iX hr1)) (show 0 ≤ 1 by decide) (by decide) (show ∀ i ∈ [], i < 2 by decide) (c4 (show 0 < 1 by decide) dG) (aY.c (.d _) aY.nil0) SN.nil0) (show 2 ≤ 3 by decide) ?_
  iterate 2 refine q1 _ ?_
  refine step (v := .loc 3 0 l2.length) (σ' := (ak (ak (ak (ac [(0, .var [aq a0.t.Switches, aW a0.t.Links, aG a0.t.Hosts, vi a0.p.Op, vi a0.p.F, vh a0.p.N, aC a0.p.Kids, aq a0.state, .loc 1 0 a0.found.length]), (1, .lst false none (List.map (eL (some 8) (eA8 (D.int .u16))) a0.found))]) 2 (some (.lst false (some 8) (List.map (eA8 (D.int .u16)) r1)))) 2 none) 3 (some (.lst false (some 8) (List.map (eA8 (D.int .u16)) l2))))) (n' := 4) (eQ (xs := r1) (ys := ([a2] : List (A8 Int))) (e := (eA8 (D.int .u16))) hl2 rfl rfl rfl (eP (xs := ([a2] : List (A8 Int))) (e := (eA8 (D.int .u16))) rfl)) ?_
  refine q1 _ ?_
  exact bh.nil' (bK.trans (s2 := ⟨tab [(0, .ptr 0 0 0), (1, .d (eL (some 8) (eA8 (D.int .u16)) l2)), (5, .d (.cptr (some 8) (eA8 (D.int .u16) a2) 0))], ac [(0, .var [aq a0.t.Switches, aW a0.t.Links, aG a0.t.Hosts, vi a0.p.Op, vi a0.p.F, vh a0.p.N, aC a0.p.Kids, aq a0.state, .loc 1 0 a0.found.length]), (1, .lst false none (List.map (eL (some 8) (eA8 (D.int .u16))) a0.found))], 2⟩) (qx [1, 17] (id := 3) (m := false) (k := (some 8)) (xs := l2) (e := (eA8 (D.int .u16))) rfl (fun t ht => by simp at ht; rcases ht with rfl | rfl <;> exact ⟨_, rfl, rfl⟩)) (nr [0, 1]))
 obtain ⟨r3, hr3, h⟩ := aw h
 refine al ⟨tab [(0, .ptr 0 0 0), (1, .d (eL (some 8) (eA8 (D.int .u16)) l2)), (7, .d (eL (some 8) (eA8 (D.int .u16)) r3.1)), (8, vi r3.2)], ac [(0, .var [aq a0.t.Switches, aW a0.t.Links, aG a0.t.Hosts, vi a0.p.Op, vi a0.p.F, vh a0.p.N, aC a0.p.Kids, aq a0.state, .loc 1 0 a0.found.length]), (1, .lst false none (List.map (eL (some 8) (eA8 (D.int .u16))) a0.found))], 2⟩ ?_ ?_
 ·
  iterate 3 refine q1 _ ?_
  refine step (v := cg a0.p) (b5 (ds := [.int .i64 a0.p.Op, .int .i64 a0.p.F, .int .u16 a0.p.N, eL (some 4) bQ a0.p.Kids]) rfl rfl (show 7 ≤ 9 by decide) rfl) ?_
  iterate 5 refine q1 _ ?_
  refine bx (r := .tup [eL (some 8) (eA8 (D.int .u16)) r3.1, .int .i64 r3.2]) (aI (aI (aI aS.nil'))) (kG hr3) ?_
  iterate 5 refine q1 _ ?_
  exact nR [0, 1]
 refine aF ?_
 refine al ⟨tab [(0, .ptr 0 0 0), (1, .d (eL (some 8) (eA8 (D.int .u16)) l2)), (7, .d (eL (some 8) (eA8 (D.int .u16)) r3.1)), (8, vi r3.2), (32, vb (r3.2 != 0))], ac [(0, .var [aq a0.t.Switches, aW a0.t.Links, aG a0.t.Hosts, vi a0.p.Op, vi a0.p.F, vh a0.p.N, aC a0.p.Kids, aq a0.state, .loc 1 0 a0.found.length]), (1, .lst false none (List.map (eL (some 8) (eA8 (D.int .u16))) a0.found))], 2⟩ ?_ ?_
 ·
  iterate 2 refine q1 _ ?_
  exact nR [0, 1]
 by_cases hc4 : (r3.2 != 0) = true
 ·
  replace h := aO hc4 h
  refine aU (t := (r3.2 != 0)) rfl hc4 ?_
  refine al ⟨tab [(6, vi r3.2)], ac [(0, .var [aq a0.t.Switches, aW a0.t.Links, aG a0.t.Hosts, vi a0.p.Op, vi a0.p.F, vh a0.p.N, aC a0.p.Kids, aq a0.state, .loc 1 0 a0.found.length]), (1, .lst false none (List.map (eL (some 8) (eA8 (D.int .u16))) a0.found))], 2⟩ ?_ ?_
  ·
   iterate 2 refine q1 _ ?_
   exact nR [0, 1]
  have hh := ar h
  subst hh
  refine aX (s0 := ⟨tab [(6, vi r3.2)], ac [(0, .var [aq a0.t.Switches, aW a0.t.Links, aG a0.t.Hosts, vi a0.p.Op, vi a0.p.F, vh a0.p.N, aC a0.p.Kids, aq a0.state, .loc 2 0 a0.found.length]), (2, .lst false none (List.map (eL (some 8) (eA8 (D.int .u16))) a0.found))], 3⟩) (jK [0, 1, 1] [0, 2] (by decide) rfl (by decide) (by decide) ⟨.d _, trivial⟩ ⟨⟨show 0 < 3 by decide, _, rfl, .vars ⟨.d _, .d _, .d _, .d _, .d _, .d _, .d _, .d _, .lc 2, trivial⟩⟩, ⟨show 2 < 3 by decide, _, rfl, .lst _ _ _⟩, trivial⟩) ?_
  refine aN ?_
  exact ⟨.inr rfl, _, rfl, rfl, ct.sub ⟨rfl, rfl, trivial⟩, rfl⟩
 ·
  replace h := aP hc4 h
  refine aT (t := (r3.2 != 0)) rfl hc4 ?_
  refine bd ?_
  refine aF ?_
  refine al ⟨tab [(0, .ptr 0 0 0), (1, .d (eL (some 8) (eA8 (D.int .u16)) l2)), (7, .d (eL (some 8) (eA8 (D.int .u16)) r3.1)), (36, vb ((r3.1.length : Int) == 0))], ac [(0, .var [aq a0.t.Switches, aW a0.t.Links, aG a0.t.Hosts, vi a0.p.Op, vi a0.p.F, vh a0.p.N, aC a0.p.Kids, aq a0.state, .loc 1 0 a0.found.length]), (1, .lst false none (List.map (eL (some 8) (eA8 (D.int .u16))) a0.found))], 2⟩ ?_ ?_
  ·
   refine q1 _ ?_
   refine step (v := vi (r3.1.length : Int)) (bG (xs := r3.1) (e := (eA8 (D.int .u16))) rfl) ?_
   refine q1 _ ?_
   exact nR [0, 1]
  by_cases hc5 : ((r3.1.length : Int) == 0) = true
  ·
   replace h := aO hc5 h
   refine aU (t := ((r3.1.length : Int) == 0)) rfl hc5 ?_
   obtain ⟨r6, hr6, h⟩ := aw h
   refine al ⟨tab [(6, vi r6.1)], ac [(0, .var [aq r6.2.t.Switches, aW r6.2.t.Links, aG r6.2.t.Hosts, vi r6.2.p.Op, vi r6.2.p.F, vh r6.2.p.N, aC r6.2.p.Kids, aq r6.2.state, .loc 2 0 r6.2.found.length]), (2, .lst false none (List.map (eL (some 8) (eA8 (D.int .u16))) r6.2.found))], 3⟩ ?_ ?_
   ·
    iterate 2 refine q1 _ ?_
    refine eB (v := vi r6.1) (σ' := (ak (ak (ak (ak (ac [(0, .var [aq a0.t.Switches, aW a0.t.Links, aG a0.t.Hosts, vi a0.p.Op, vi a0.p.F, vh a0.p.N, aC a0.p.Kids, aq a0.state, .loc 1 0 a0.found.length]), (1, .lst false none (List.map (eL (some 8) (eA8 (D.int .u16))) a0.found))]) 1 none) 0 none) 2 (some (.lst false none (List.map (eL (some 8) (eA8 (D.int .u16))) r6.2.found)))) 0 (some (.var [aq r6.2.t.Switches, aW r6.2.t.Links, aG r6.2.t.Hosts, vi r6.2.p.Op, vi r6.2.p.F, vh r6.2.p.N, aC r6.2.p.Kids, aq r6.2.state, .loc 2 0 r6.2.found.length])))) (n' := 3) (eC [0, 1] (oa hr6) (show 2 ≤ 3 by decide) (by decide) (show ∀ i ∈ [0, 1], i < 2 by decide) (c4 (show 0 < 3 by decide) (c4 (show 2 < 3 by decide) dG)) (aY.c (.pt 0) (aY.c (.d _) aY.nil0)) (SN.c (show 0 < 2 by decide) rfl (.vars (aY.c (.d _) (aY.c (.d _) (aY.c (.d _) (aY.c (.d _) (aY.c (.d _) (aY.c (.d _) (aY.c (.d _) (aY.c (.d _) (aY.c (.lc 1) aY.nil0)))))))))) (SN.c (show 1 < 2 by decide) rfl (.lst _ _ _) SN.nil0))) (show 2 ≤ 3 by decide) ?_
    refine q1 _ ?_
    exact nR [0, 1, 2]
   have hh := ar h
   subst hh
   refine aN ?_
   exact ⟨.inr rfl, _, rfl, rfl, ct.sub ⟨rfl, rfl, trivial⟩, rfl⟩
  ·
   replace h := aP hc5 h
   refine aT (t := ((r3.1.length : Int) == 0)) rfl hc5 ?_
   refine bd ?_
   refine aF ?_
   refine al ⟨tab [(0, .ptr 0 0 0), (1, .d (eL (some 8) (eA8 (D.int .u16)) l2)), (40, .d (eL (some 8) (eA8 (D.int .u16)) r3.1)), (41, vi (r3.1.length : Int)), (42, vi 0)], ac [(0, .var [aq a0.t.Switches, aW a0.t.Links, aG a0.t.Hosts, vi a0.p.Op, vi a0.p.F, vh a0.p.N, aC a0.p.Kids, aq a0.state, .loc 1 0 a0.found.length]), (1, .lst false none (List.map (eL (some 8) (eA8 (D.int .u16))) a0.found))], 2⟩ ?_ ?_
   ·
    refine q1 _ ?_
    refine step (v := vi (r3.1.length : Int)) (bG (xs := r3.1) (e := (eA8 (D.int .u16))) rfl) ?_
    refine q1 _ ?_
    exact nR [0, 1]
   obtain ⟨q53, hl, h⟩ := aw h
   refine aX (s0 := ⟨tab [(0, .ptr 0 0 0), (1, .d (eL (some 8) (eA8 (D.int .u16)) l2)), (40, .d (eL (some 8) (eA8 (D.int .u16)) r3.1)), (41, vi (r3.1.length : Int)), (42, vi 0)], ac [(0, .var [aq a0.t.Switches, aW a0.t.Links, aG a0.t.Hosts, vi a0.p.Op, vi a0.p.F, vh a0.p.N, aC a0.p.Kids, aq a0.state, .loc 2 0 a0.found.length]), (2, .lst false none (List.map (eL (some 8) (eA8 (D.int .u16))) a0.found))], 3⟩) (jK [0, 1, 1] [0, 2] (by decide) rfl (by decide) (by decide) ⟨.pt 0, .d _, .d _, .d _, .d _, trivial⟩ ⟨⟨show 0 < 3 by decide, _, rfl, .vars ⟨.d _, .d _, .d _, .d _, .d _, .d _, .d _, .d _, .lc 2, trivial⟩⟩, ⟨show 2 < 3 by decide, _, rfl, .lst _ _ _⟩, trivial⟩) ?_
   refine bz ?_
   refine df (cA (r3.1.length : Int)) (fun (i16 : Int) (qq : ((List Int) × (List (A2 api_Port)) × (List api_Port) × Int × Int × Int × (List am) × (List Int) × (List (List (A8 Int))))) => ⟨tab [(0, .ptr 0 0 0), (1, .d (eL (some 8) (eA8 (D.int .u16)) l2)), (40, .d (eL (some 8) (eA8 (D.int .u16)) r3.1)), (41, vi (r3.1.length : Int)), (42, vi i16)], ac [(0, .var [aq qq.1, aW qq.2.1, aG qq.2.2.1, vi qq.2.2.2.1, vi qq.2.2.2.2.1, vh qq.2.2.2.2.2.1, aC qq.2.2.2.2.2.2.1, aq qq.2.2.2.2.2.2.2.1, .loc 2 0 qq.2.2.2.2.2.2.2.2.length]), (2, .lst false none (List.map (eL (some 8) (eA8 (D.int .u16))) qq.2.2.2.2.2.2.2.2))], 3⟩) 0 (fun (qq : ((List Int) × (List (A2 api_Port)) × (List api_Port) × Int × Int × Int × (List am) × (List Int) × (List (List (A8 Int))))) => ⟨tab [], ac [(0, .var [aq qq.1, aW qq.2.1, aG qq.2.2.1, vi qq.2.2.2.1, vi qq.2.2.2.2.1, vh qq.2.2.2.2.2.1, aC qq.2.2.2.2.2.2.1, aq qq.2.2.2.2.2.2.2.1, .loc 2 0 qq.2.2.2.2.2.2.2.2.length]), (2, .lst false none (List.map (eL (some 8) (eA8 (D.int .u16))) qq.2.2.2.2.2.2.2.2))], 3⟩) bF cB (r := r) hl (by unfold bF; omega) ?_ ?_ ?_ ?_
   ·
    rintro i16 ⟨y7, y8, y9, i10, i11, i12, y13, y14, l15⟩ xr21 hinv19 hgo18 h
    show aK _ _ _ _ _ ⟨tab [(0, .ptr 0 0 0), (1, .d (eL (some 8) (eA8 (D.int .u16)) l2)), (40, .d (eL (some 8) (eA8 (D.int .u16)) r3.1)), (41, vi (r3.1.length : Int)), (42, vi i16)], ac [(0, .var [aq y7, aW y8, aG y9, vi i10, vi i11, vh i12, aC y13, aq y14, .loc 2 0 l15.length]), (2, .lst false none (List.map (eL (some 8) (eA8 (D.int .u16))) l15))], 3⟩
    have hc20 : decide (i16 < (r3.1.length : Int)) = true := decide_eq_true hgo18
    refine al ⟨tab [(0, .ptr 0 0 0), (1, .d (eL (some 8) (eA8 (D.int .u16)) l2)), (40, .d (eL (some 8) (eA8 (D.int .u16)) r3.1)), (41, vi (r3.1.length : Int)), (42, vi i16), (43, vb (decide (i16 < (r3.1.length : Int))))], ac [(0, .var [aq y7, aW y8, aG y9, vi i10, vi i11, vh i12, aC y13, aq y14, .loc 2 0 l15.length]), (2, .lst false none (List.map (eL (some 8) (eA8 (D.int .u16))) l15))], 3⟩ ?_ ?_
    ·
     refine q1 _ ?_
     exact nR [0, 1, 2]
    refine cz 41 rfl fun hB17 => ?_
    refine aF ?_
    refine aU (t := decide (i16 < (r3.1.length : Int))) rfl hc20 ?_
    refine bd ?_
    refine aF ?_
    refine bz ?_
    obtain ⟨x22, hx22, h⟩ := aw h
    refine al ⟨tab [(0, .ptr 0 0 0), (1, .d (eL (some 8) (eA8 (D.int .u16)) l2)), (10, .ptr 3 0 0), (40, .d (eL (some 8) (eA8 (D.int .u16)) r3.1)), (41, vi (r3.1.length : Int)), (42, vi i16)], ac [(0, .var [aq y7, aW y8, aG y9, vi i10, vi i11, vh i12, aC y13, aq y14, .loc 2 0 l15.length]), (2, .lst false none (List.map (eL (some 8) (eA8 (D.int .u16))) l15)), (3, .var [vh x22.a0, vh x22.a1, vh x22.a2, vh x22.a3, vh x22.a4, vh x22.a5, vh x22.a6, vh x22.a7])], 4⟩ ?_ ?_
    ·
     refine step (v := .d (.cptr (some 8) (eA8 (D.int .u16) x22) 0)) (b4 (xs := r3.1) (e := (eA8 (D.int .u16))) hx22 rfl rfl) ?_
     refine q1 _ ?_
     refine step (v := .ptr 3 0 0) (σ' := (ak (ac [(0, .var [aq y7, aW y8, aG y9, vi i10, vi i11, vh i12, aC y13, aq y14, .loc 2 0 l15.length]), (2, .lst false none (List.map (eL (some 8) (eA8 (D.int .u16))) l15))]) 3 (some (bR)))) (n' := 4) rfl ?_
     refine step (v := V.undef) (σ' := (ak (ak (ac [(0, .var [aq y7, aW y8, aG y9, vi i10, vi i11, vh i12, aC y13, aq y14, .loc 2 0 l15.length]), (2, .lst false none (List.map (eL (some 8) (eA8 (D.int .u16))) l15))]) 3 (some (bR))) 3 (some (.var [vh x22.a0, vh x22.a1, vh x22.a2, vh x22.a3, vh x22.a4, vh x22.a5, vh x22.a6, vh x22.a7])))) (n' := 4) rfl ?_
     exact nR [0, 1, 2, 3]
    obtain ⟨r23, hr23, h⟩ := aw h
    refine al ⟨tab [(0, .ptr 0 0 0), (1, .d (eL (some 8) (eA8 (D.int .u16)) l2)), (10, .ptr 3 0 0), (11, .ptr 4 0 0), (12, vi r23.2), (40, .d (eL (some 8) (eA8 (D.int .u16)) r3.1)), (41, vi (r3.1.length : Int)), (42, vi i16)], ac [(0, .var [aq y7, aW y8, aG y9, vi i10, vi i11, vh i12, aC y13, aq y14, .loc 2 0 l15.length]), (2, .lst false none (List.map (eL (some 8) (eA8 (D.int .u16))) l15)), (3, .var [vh x22.a0, vh x22.a1, vh x22.a2, vh x22.a3, vh x22.a4, vh x22.a5, vh x22.a6, vh x22.a7]), (4, .var [vh r23.1.a0, vh r23.1.a1, vh r23.1.a2, vh r23.1.a3, vh r23.1.a4, vh r23.1.a5, vh r23.1.a6, vh r23.1.a7])], 5⟩ ?_ ?_
    ·
     iterate 3 refine q1 _ ?_
     refine step (v := c7 (api_Topo.mk y7 y8 y9)) (b5 (ds := [eL none (D.int .u16) y7, eL (some 4) (b9 eapi_Port) y8, eL (some 2) eapi_Port y9]) rfl rfl (show 3 ≤ 9 by decide) rfl) ?_
     refine step (v := .d (eA8 (D.int .u16) x22)) (b5 (ds := [.int .u16 x22.a0, .int .u16 x22.a1, .int .u16 x22.a2, .int .u16 x22.a3, .int .u16 x22.a4, .int .u16 x22.a5, .int .u16 x22.a6, .int .u16 x22.a7]) rfl rfl (show 8 ≤ 8 by decide) rfl) ?_
     refine bx (r := .tup [eA8 (D.int .u16) r23.1, .int .i64 r23.2]) (aI (aI aS.nil')) (hE hr23) ?_
     iterate 3 refine q1 _ ?_
     refine step (v := .ptr 4 0 0) (σ' := (ak (ac [(0, .var [aq y7, aW y8, aG y9, vi i10, vi i11, vh i12, aC y13, aq y14, .loc 2 0 l15.length]), (2, .lst false none (List.map (eL (some 8) (eA8 (D.int .u16))) l15)), (3, .var [vh x22.a0, vh x22.a1, vh x22.a2, vh x22.a3, vh x22.a4, vh x22.a5, vh x22.a6, vh x22.a7])]) 4 (some (bR)))) (n' := 5) rfl ?_
     refine step (v := V.undef) (σ' := (ak (ak (ac [(0, .var [aq y7, aW y8, aG y9, vi i10, vi i11, vh i12, aC y13, aq y14, .loc 2 0 l15.length]), (2, .lst false none (List.map (eL (some 8) (eA8 (D.int .u16))) l15)), (3, .var [vh x22.a0, vh x22.a1, vh x22.a2, vh x22.a3, vh x22.a4, vh x22.a5, vh x22.a6, vh x22.a7])]) 4 (some (bR))) 4 (some (.var [vh r23.1.a0, vh r23.1.a1, vh r23.1.a2, vh r23.1.a3, vh r23.1.a4, vh r23.1.a5, vh r23.1.a6, vh r23.1.a7])))) (n' := 5) rfl ?_
     refine q1 _ ?_
     exact nR [0, 1, 2, 3, 4]
    obtain ⟨q42, hv, h⟩ := aw h
    obtain ⟨y32, y33, y34, y35, y36, y37, y38, y39, l40, y41⟩ := q42
    refine eO ⟨tab [(0, .ptr 0 0 0), (1, .d (eL (some 8) (eA8 (D.int .u16)) l2)), (8, vi y41), (40, .d (eL (some 8) (eA8 (D.int .u16)) r3.1)), (41, vi (r3.1.length : Int)), (42, vi i16)], ac [(0, .var [aq y32, aW y33, aG y34, vi y35, vi y36, vh y37, aC y38, aq y39, .loc 2 0 l40.length]), (2, .lst false none (List.map (eL (some 8) (eA8 (D.int .u16))) l40))], 3⟩ ?_ ?_
    ·
     replace h := hv
     refine al ⟨tab [(0, .ptr 0 0 0), (1, .d (eL (some 8) (eA8 (D.int .u16)) l2)), (10, .ptr 3 0 0), (11, .ptr 4 0 0), (40, .d (eL (some 8) (eA8 (D.int .u16)) r3.1)), (41, vi (r3.1.length : Int)), (42, vi i16), (61, vb ((r23.2 == 0) && (decide ((l2.length : Int) < 23))))], ac [(0, .var [aq y7, aW y8, aG y9, vi i10, vi i11, vh i12, aC y13, aq y14, .loc 2 0 l15.length]), (2, .lst false none (List.map (eL (some 8) (eA8 (D.int .u16))) l15)), (3, .var [vh x22.a0, vh x22.a1, vh x22.a2, vh x22.a3, vh x22.a4, vh x22.a5, vh x22.a6, vh x22.a7]), (4, .var [vh r23.1.a0, vh r23.1.a1, vh r23.1.a2, vh r23.1.a3, vh r23.1.a4, vh r23.1.a5, vh r23.1.a6, vh r23.1.a7])], 5⟩ ?_ ?_
     ·
      iterate 3 refine q1 _ ?_
      by_cases hg24 : (r23.2 == 0) = true
      ·
       refine qG _ hg24 ?_
       refine q1 _ ?_
       refine qG _ hg24 ?_
       refine step (v := vi (l2.length : Int)) (bG (xs := l2) (e := (eA8 (D.int .u16))) rfl) ?_
       refine qG _ hg24 ?_
       refine q1 _ ?_
       refine step (v := vb (decide ((l2.length : Int) < 23))) (bD (b := (r23.2 == 0)) rfl hg24 rfl) ?_
       exact bh.nil' (nm [0, 1, 2, 3, 4] ⟨.pt 0, .d _, .pt 3, .pt 4, .d _, .d _, .d _, .eq (by first | (simp [hg24]; done) | (simp_all; done) | grind), trivial⟩ ⟨⟨show 0 < 5 by decide, _, rfl, .vars ⟨.d _, .d _, .d _, .d _, .d _, .d _, .d _, .d _, .lc 2, trivial⟩⟩, ⟨show 2 < 5 by decide, _, rfl, .lst _ _ _⟩, ⟨show 3 < 5 by decide, _, rfl, .vars ⟨.d _, .d _, .d _, .d _, .d _, .d _, .d _, .d _, trivial⟩⟩, ⟨show 4 < 5 by decide, _, rfl, .vars ⟨.d _, .d _, .d _, .d _, .d _, .d _, .d _, .d _, trivial⟩⟩, trivial⟩)
      ·
       iterate 3 refine qX _ hg24 ?_
       refine step (v := vb false) (bu (b := (r23.2 == 0)) rfl hg24 rfl) ?_
       exact bh.nil' (nm [0, 1, 2, 3, 4] ⟨.pt 0, .d _, .pt 3, .pt 4, .d _, .d _, .d _, .eq (by first | (simp [hg24]; done) | (simp_all; done) | grind), trivial⟩ ⟨⟨show 0 < 5 by decide, _, rfl, .vars ⟨.d _, .d _, .d _, .d _, .d _, .d _, .d _, .d _, .lc 2, trivial⟩⟩, ⟨show 2 < 5 by decide, _, rfl, .lst _ _ _⟩, ⟨show 3 < 5 by decide, _, rfl, .vars ⟨.d _, .d _, .d _, .d _, .d _, .d _, .d _, .d _, trivial⟩⟩, ⟨show 4 < 5 by decide, _, rfl, .vars ⟨.d _, .d _, .d _, .d _, .d _, .d _, .d _, .d _, trivial⟩⟩, trivial⟩)
     by_cases hc25 : ((r23.2 == 0) && (decide ((l2.length : Int) < 23))) = true
     ·
      replace h := aO hc25 h
      refine aU (t := ((r23.2 == 0) && (decide ((l2.length : Int) < 23)))) rfl hc25 ?_
      obtain ⟨r26, hr26, h⟩ := aw h
      obtain ⟨l27, hl27, h⟩ := aw h
      obtain ⟨r28, hr28, h⟩ := aw h
      have hh := ar h
      obtain ⟨he0, ht0⟩ := Prod.mk.inj hh
      obtain ⟨he1, ht1⟩ := Prod.mk.inj ht0
      obtain ⟨he2, ht2⟩ := Prod.mk.inj ht1
      obtain ⟨he3, ht3⟩ := Prod.mk.inj ht2
      obtain ⟨he4, ht4⟩ := Prod.mk.inj ht3
      obtain ⟨he5, ht5⟩ := Prod.mk.inj ht4
      obtain ⟨he6, ht6⟩ := Prod.mk.inj ht5
      obtain ⟨he7, ht7⟩ := Prod.mk.inj ht6
      obtain ⟨he8, ht8⟩ := Prod.mk.inj ht7
      subst he0
      subst he1
      subst he2
      subst he3
      subst he4
      subst he5
      subst he6
      subst he7
      subst he8
      subst ht8
      refine iV ⟨tab [(0, .ptr 0 0 0), (1, .d (eL (some 8) (eA8 (D.int .u16)) l2)), (8, vi r28.1), (40, .d (eL (some 8) (eA8 (D.int .u16)) r3.1)), (41, vi (r3.1.length : Int)), (42, vi i16)], ac [(0, .var [aq r28.2.t.Switches, aW r28.2.t.Links, aG r28.2.t.Hosts, vi r28.2.p.Op, vi r28.2.p.F, vh r28.2.p.N, aC r28.2.p.Kids, aq r28.2.state, .loc 2 0 r28.2.found.length]), (2, .lst false none (List.map (eL (some 8) (eA8 (D.int .u16))) r28.2.found))], 3⟩ ?_ ?_
      ·
       refine bM [] [] (v := .ptr 0 0 0) rfl rfl rfl ?_
       refine bM [] [] (v := .d (eL (some 8) (eA8 (D.int .u16)) l2)) rfl rfl rfl ?_
       refine iT (σ' := (ak (ac [(0, .var [aq y7, aW y8, aG y9, vi i10, vi i11, vh i12, aC y13, aq y14, .loc 2 0 l15.length]), (2, .lst false none (List.map (eL (some 8) (eA8 (D.int .u16))) l15)), (3, .var [vh x22.a0, vh x22.a1, vh x22.a2, vh x22.a3, vh x22.a4, vh x22.a5, vh x22.a6, vh x22.a7]), (4, .var [vh r23.1.a0, vh r23.1.a1, vh r23.1.a2, vh r23.1.a3, vh r23.1.a4, vh r23.1.a5, vh r23.1.a6, vh r23.1.a7])]) 5 (some (.lst false (some 8) (List.map (eA8 (D.int .u16)) r26))))) (R := []) (W := []) (m := 6) (iW [] (bO.frz (iX hr26)) (by decide) (by decide) (by decide) (c4 (show 0 < 1 by decide) dG) [] rfl (aY.c (.d _) aY.nil0) SN.nil0 (.loc 5 0 r26.length) rfl [(5, some (.lst false (some 8) (List.map (eA8 (D.int .u16)) r26)))] [] 6 rfl rfl rfl rfl (fun _ => rfl)) trivial rfl rfl ?_
       refine bM [3] [] (v := .d (eA8 (D.int .u16) x22)) (b5 (ds := [.int .u16 x22.a0, .int .u16 x22.a1, .int .u16 x22.a2, .int .u16 x22.a3, .int .u16 x22.a4, .int .u16 x22.a5, .int .u16 x22.a6, .int .u16 x22.a7]) rfl rfl (show 8 ≤ 8 by decide) rfl) rfl rfl ?_
       refine bM [] [] (v := .d (eL (some 8) (eA8 (D.int .u16)) ([x22] : List (A8 Int)))) rfl rfl rfl ?_
       refine bM [5] [5] (v := .loc 6 0 l27.length) (σ' := (ak (ak (ak (ac [(0, .var [aq y7, aW y8, aG y9, vi i10, vi i11, vh i12, aC y13, aq y14, .loc 2 0 l15.length]), (2, .lst false none (List.map (eL (some 8) (eA8 (D.int .u16))) l15)), (3, .var [vh x22.a0, vh x22.a1, vh x22.a2, vh x22.a3, vh x22.a4, vh x22.a5, vh x22.a6, vh x22.a7]), (4, .var [vh r23.1.a0, vh r23.1.a1, vh r23.1.a2, vh r23.1.a3, vh r23.1.a4, vh r23.1.a5, vh r23.1.a6, vh r23.1.a7])]) 5 (some (.lst false (some 8) (List.map (eA8 (D.int .u16)) r26)))) 5 none) 6 (some (.lst false (some 8) (List.map (eA8 (D.int .u16)) l27))))) (n' := 7) (eQ (xs := r26) (ys := ([x22] : List (A8 Int))) (e := (eA8 (D.int .u16))) hl27 rfl rfl rfl (eP (xs := ([x22] : List (A8 Int))) (e := (eA8 (D.int .u16))) rfl)) rfl rfl ?_
       refine bM [4] [] (v := .d (eA8 (D.int .u16) r23.1)) (b5 (ds := [.int .u16 r23.1.a0, .int .u16 r23.1.a1, .int .u16 r23.1.a2, .int .u16 r23.1.a3, .int .u16 r23.1.a4, .int .u16 r23.1.a5, .int .u16 r23.1.a6, .int .u16 r23.1.a7]) rfl rfl (show 8 ≤ 8 by decide) rfl) rfl rfl ?_
       refine iT (σ' := (ak (ak (ak (ak (ak (ak (ak (ac [(0, .var [aq y7, aW y8, aG y9, vi i10, vi i11, vh i12, aC y13, aq y14, .loc 2 0 l15.length]), (2, .lst false none (List.map (eL (some 8) (eA8 (D.int .u16))) l15)), (3, .var [vh x22.a0, vh x22.a1, vh x22.a2, vh x22.a3, vh x22.a4, vh x22.a5, vh x22.a6, vh x22.a7]), (4, .var [vh r23.1.a0, vh r23.1.a1, vh r23.1.a2, vh r23.1.a3, vh r23.1.a4, vh r23.1.a5, vh r23.1.a6, vh r23.1.a7])]) 5 (some (.lst false (some 8) (List.map (eA8 (D.int .u16)) r26)))) 5 none) 6 (some (.lst false (some 8) (List.map (eA8 (D.int .u16)) l27)))) 2 none) 0 none) 7 (some (.lst false none (List.map (eL (some 8) (eA8 (D.int .u16))) r28.2.found)))) 0 (some (.var [aq r28.2.t.Switches, aW r28.2.t.Links, aG r28.2.t.Hosts, vi r28.2.p.Op, vi r28.2.p.F, vh r28.2.p.N, aC r28.2.p.Kids, aq r28.2.state, .loc 7 0 r28.2.found.length])))) (R := [0, 2, 6]) (W := [0, 2]) (m := 8) (eT.sees (iW [0, 2] (hself _ _ _ _ hr28) (by decide) (by decide) (by decide) (c4 (show 0 < 3 by decide) (c4 (show 2 < 3 by decide) dG)) [(0, .var [aq y7, aW y8, aG y9, vi i10, vi i11, vh i12, aC y13, aq y14, .loc 2 0 l15.length]), (2, .lst false none (List.map (eL (some 8) (eA8 (D.int .u16))) l15))] rfl (aY.c (.pt 0) (aY.c (.d _) (aY.c (.d _) aY.nil0))) (SN.c (show 0 < 2 by decide) rfl (.vars (aY.c (.d _) (aY.c (.d _) (aY.c (.d _) (aY.c (.d _) (aY.c (.d _) (aY.c (.d _) (aY.c (.d _) (aY.c (.d _) (aY.c (.lc 1) aY.nil0)))))))))) (SN.c (show 1 < 2 by decide) rfl (.lst _ _ _) SN.nil0)) (vi r28.1) rfl [(2, none), (0, none), (7, some (.lst false none (List.map (eL (some 8) (eA8 (D.int .u16))) r28.2.found))), (0, some (.var [aq r28.2.t.Switches, aW r28.2.t.Links, aG r28.2.t.Hosts, vi r28.2.p.Op, vi r28.2.p.F, vh r28.2.p.N, aC r28.2.p.Kids, aq r28.2.state, .loc 7 0 r28.2.found.length]))] [0, 2] 8 rfl rfl rfl rfl (fun _ => rfl)) [(6, .lst false (some 8) (List.map (eA8 (D.int .u16)) l27))] (fun σ hq => ⟨.inl rfl, ⟨.inr ⟨_, j0 (xs := l27) (e := (eA8 (D.int .u16))) (hq (6, .lst false (some 8) (List.map (eA8 (D.int .u16)) l27)) (.head _)) rfl, rfl⟩, ⟨.inl rfl, trivial⟩⟩⟩)) ⟨rfl, rfl, rfl, trivial⟩ rfl rfl ?_
       refine bM [] [] (v := vi r28.1) rfl rfl rfl ?_
       exact bX.nil' ⟨by decide, nr [0, 1, 7]⟩
      exact And.intro rfl rfl
     ·
      replace h := aP hc25 h
      refine aT (t := ((r23.2 == 0) && (decide ((l2.length : Int) < 23)))) rfl hc25 ?_
      obtain ⟨r29, hr29, h⟩ := aw h
      obtain ⟨l30, hl30, h⟩ := aw h
      obtain ⟨r31, hr31, h⟩ := aw h
      have hh := ar h
      obtain ⟨he0, ht0⟩ := Prod.mk.inj hh
      obtain ⟨he1, ht1⟩ := Prod.mk.inj ht0
      obtain ⟨he2, ht2⟩ := Prod.mk.inj ht1
      obtain ⟨he3, ht3⟩ := Prod.mk.inj ht2
      obtain ⟨he4, ht4⟩ := Prod.mk.inj ht3
      obtain ⟨he5, ht5⟩ := Prod.mk.inj ht4
      obtain ⟨he6, ht6⟩ := Prod.mk.inj ht5
      obtain ⟨he7, ht7⟩ := Prod.mk.inj ht6
      obtain ⟨he8, ht8⟩ := Prod.mk.inj ht7
      subst he0
      subst he1
      subst he2
      subst he3
      subst he4
      subst he5
      subst he6
      subst he7
      subst he8
      subst ht8
      refine iV ⟨tab [(0, .ptr 0 0 0), (1, .d (eL (some 8) (eA8 (D.int .u16)) l2)), (8, vi r31.1), (40, .d (eL (some 8) (eA8 (D.int .u16)) r3.1)), (41, vi (r3.1.length : Int)), (42, vi i16)], ac [(0, .var [aq r31.2.t.Switches, aW r31.2.t.Links, aG r31.2.t.Hosts, vi r31.2.p.Op, vi r31.2.p.F, vh r31.2.p.N, aC r31.2.p.Kids, aq r31.2.state, .loc 2 0 r31.2.found.length]), (2, .lst false none (List.map (eL (some 8) (eA8 (D.int .u16))) r31.2.found))], 3⟩ ?_ ?_
      ·
       refine bM [] [] (v := .ptr 0 0 0) rfl rfl rfl ?_
       refine bM [] [] (v := .d (eL (some 8) (eA8 (D.int .u16)) l2)) rfl rfl rfl ?_
       refine iT (σ' := (ak (ac [(0, .var [aq y7, aW y8, aG y9, vi i10, vi i11, vh i12, aC y13, aq y14, .loc 2 0 l15.length]), (2, .lst false none (List.map (eL (some 8) (eA8 (D.int .u16))) l15)), (3, .var [vh x22.a0, vh x22.a1, vh x22.a2, vh x22.a3, vh x22.a4, vh x22.a5, vh x22.a6, vh x22.a7]), (4, .var [vh r23.1.a0, vh r23.1.a1, vh r23.1.a2, vh r23.1.a3, vh r23.1.a4, vh r23.1.a5, vh r23.1.a6, vh r23.1.a7])]) 5 (some (.lst false (some 8) (List.map (eA8 (D.int .u16)) r29))))) (R := []) (W := []) (m := 6) (iW [] (bO.frz (iX hr29)) (by decide) (by decide) (by decide) (c4 (show 0 < 1 by decide) dG) [] rfl (aY.c (.d _) aY.nil0) SN.nil0 (.loc 5 0 r29.length) rfl [(5, some (.lst false (some 8) (List.map (eA8 (D.int .u16)) r29)))] [] 6 rfl rfl rfl rfl (fun _ => rfl)) trivial rfl rfl ?_
       refine bM [3] [] (v := .d (eA8 (D.int .u16) x22)) (b5 (ds := [.int .u16 x22.a0, .int .u16 x22.a1, .int .u16 x22.a2, .int .u16 x22.a3, .int .u16 x22.a4, .int .u16 x22.a5, .int .u16 x22.a6, .int .u16 x22.a7]) rfl rfl (show 8 ≤ 8 by decide) rfl) rfl rfl ?_
       refine bM [] [] (v := .d (eL (some 8) (eA8 (D.int .u16)) ([x22] : List (A8 Int)))) rfl rfl rfl ?_
       refine bM [5] [5] (v := .loc 6 0 l30.length) (σ' := (ak (ak (ak (ac [(0, .var [aq y7, aW y8, aG y9, vi i10, vi i11, vh i12, aC y13, aq y14, .loc 2 0 l15.length]), (2, .lst false none (List.map (eL (some 8) (eA8 (D.int .u16))) l15)), (3, .var [vh x22.a0, vh x22.a1, vh x22.a2, vh x22.a3, vh x22.a4, vh x22.a5, vh x22.a6, vh x22.a7]), (4, .var [vh r23.1.a0, vh r23.1.a1, vh r23.1.a2, vh r23.1.a3, vh r23.1.a4, vh r23.1.a5, vh r23.1.a6, vh r23.1.a7])]) 5 (some (.lst false (some 8) (List.map (eA8 (D.int .u16)) r29)))) 5 none) 6 (some (.lst false (some 8) (List.map (eA8 (D.int .u16)) l30))))) (n' := 7) (eQ (xs := r29) (ys := ([x22] : List (A8 Int))) (e := (eA8 (D.int .u16))) hl30 rfl rfl rfl (eP (xs := ([x22] : List (A8 Int))) (e := (eA8 (D.int .u16))) rfl)) rfl rfl ?_
       refine iT (σ' := (ak (ak (ak (ak (ak (ak (ak (ac [(0, .var [aq y7, aW y8, aG y9, vi i10, vi i11, vh i12, aC y13, aq y14, .loc 2 0 l15.length]), (2, .lst false none (List.map (eL (some 8) (eA8 (D.int .u16))) l15)), (3, .var [vh x22.a0, vh x22.a1, vh x22.a2, vh x22.a3, vh x22.a4, vh x22.a5, vh x22.a6, vh x22.a7]), (4, .var [vh r23.1.a0, vh r23.1.a1, vh r23.1.a2, vh r23.1.a3, vh r23.1.a4, vh r23.1.a5, vh r23.1.a6, vh r23.1.a7])]) 5 (some (.lst false (some 8) (List.map (eA8 (D.int .u16)) r29)))) 5 none) 6 (some (.lst false (some 8) (List.map (eA8 (D.int .u16)) l30)))) 2 none) 0 none) 7 (some (.lst false none (List.map (eL (some 8) (eA8 (D.int .u16))) r31.2.found)))) 0 (some (.var [aq r31.2.t.Switches, aW r31.2.t.Links, aG r31.2.t.Hosts, vi r31.2.p.Op, vi r31.2.p.F, vh r31.2.p.N, aC r31.2.p.Kids, aq r31.2.state, .loc 7 0 r31.2.found.length])))) (R := [0, 2, 6]) (W := [0, 2]) (m := 8) (eT.sees (iW [0, 2] (oa hr31) (by decide) (by decide) (by decide) (c4 (show 0 < 3 by decide) (c4 (show 2 < 3 by decide) dG)) [(0, .var [aq y7, aW y8, aG y9, vi i10, vi i11, vh i12, aC y13, aq y14, .loc 2 0 l15.length]), (2, .lst false none (List.map (eL (some 8) (eA8 (D.int .u16))) l15))] rfl (aY.c (.pt 0) (aY.c (.d _) aY.nil0)) (SN.c (show 0 < 2 by decide) rfl (.vars (aY.c (.d _) (aY.c (.d _) (aY.c (.d _) (aY.c (.d _) (aY.c (.d _) (aY.c (.d _) (aY.c (.d _) (aY.c (.d _) (aY.c (.lc 1) aY.nil0)))))))))) (SN.c (show 1 < 2 by decide) rfl (.lst _ _ _) SN.nil0)) (vi r31.1) rfl [(2, none), (0, none), (7, some (.lst false none (List.map (eL (some 8) (eA8 (D.int .u16))) r31.2.found))), (0, some (.var [aq r31.2.t.Switches, aW r31.2.t.Links, aG r31.2.t.Hosts, vi r31.2.p.Op, vi r31.2.p.F, vh r31.2.p.N, aC r31.2.p.Kids, aq r31.2.state, .loc 7 0 r31.2.found.length]))] [0, 2] 8 rfl rfl rfl rfl (fun _ => rfl)) [(6, .lst false (some 8) (List.map (eA8 (D.int .u16)) l30))] (fun σ hq => ⟨.inl rfl, ⟨.inr ⟨_, j0 (xs := l30) (e := (eA8 (D.int .u16))) (hq (6, .lst false (some 8) (List.map (eA8 (D.int .u16)) l30)) (.head _)) rfl, rfl⟩, trivial⟩⟩)) ⟨rfl, rfl, rfl, trivial⟩ rfl rfl ?_
       refine bM [] [] (v := vi r31.1) rfl rfl rfl ?_
       exact bX.nil' ⟨by decide, nr [0, 1, 7]⟩
      exact And.intro rfl rfl
    refine al ⟨tab [(0, .ptr 0 0 0), (1, .d (eL (some 8) (eA8 (D.int .u16)) l2)), (8, vi y41), (40, .d (eL (some 8) (eA8 (D.int .u16)) r3.1)), (41, vi (r3.1.length : Int)), (42, vi i16), (78, vb (y41 != 0))], ac [(0, .var [aq y32, aW y33, aG y34, vi y35, vi y36, vh y37, aC y38, aq y39, .loc 2 0 l40.length]), (2, .lst false none (List.map (eL (some 8) (eA8 (D.int .u16))) l40))], 3⟩ ?_ ?_
    ·
     iterate 2 refine q1 _ ?_
     exact nR [0, 1, 2]
    by_cases hc43 : (y41 != 0) = true
    ·
     replace h := aO hc43 h
     refine aU (t := (y41 != 0)) rfl hc43 ?_
     refine al ⟨tab [(6, vi y41)], ac [(0, .var [aq y32, aW y33, aG y34, vi y35, vi y36, vh y37, aC y38, aq y39, .loc 2 0 l40.length]), (2, .lst false none (List.map (eL (some 8) (eA8 (D.int .u16))) l40))], 3⟩ ?_ ?_
     ·
      iterate 2 refine q1 _ ?_
      exact nR [0, 1, 2]
     obtain ⟨r44, kr44, hr⟩ := co (o := some (y41, (cb.mk (api_Topo.mk y32 y33 y34) (am.mk y35 y36 y37 y38) y39 l40))) (g := Br.ret) h
     subst hr
     have h := kr44
     have hh := ar h
     subst hh
     refine aN ?_
     refine And.intro (fun hn => nomatch hn) ?_
     intro hq
     have hq := hq.symm
     subst hq
     exact ⟨.inr rfl, _, rfl, rfl, ct.sub ⟨rfl, rfl, trivial⟩, rfl⟩
    ·
     replace h := aP hc43 h
     refine aT (t := (y41 != 0)) rfl hc43 ?_
     refine bd ?_
     have hh := ar h
     subst hh
     refine bT ⟨tab [(0, .ptr 0 0 0), (1, .d (eL (some 8) (eA8 (D.int .u16)) l2)), (40, .d (eL (some 8) (eA8 (D.int .u16)) r3.1)), (41, vi (r3.1.length : Int)), (42, vi (i16 + 1))], ac [(0, .var [aq y32, aW y33, aG y34, vi y35, vi y36, vh y37, aC y38, aq y39, .loc 2 0 l40.length]), (2, .lst false none (List.map (eL (some 8) (eA8 (D.int .u16))) l40))], 3⟩ ?_ ?_
     ·
      refine step (v := vi (i16 + 1)) (cC (cD hinv19 hgo18 hB17) rfl rfl) ?_
      refine q1 _ ?_
      exact nR [0, 1, 2]
     exact And.intro rfl rfl
   ·
    rintro i16 ⟨y7, y8, y9, i10, i11, i12, y13, y14, l15⟩ hinv19 hgo18
    show aK _ _ _ _ _ ⟨tab [(0, .ptr 0 0 0), (1, .d (eL (some 8) (eA8 (D.int .u16)) l2)), (40, .d (eL (some 8) (eA8 (D.int .u16)) r3.1)), (41, vi (r3.1.length : Int)), (42, vi i16)], ac [(0, .var [aq y7, aW y8, aG y9, vi i10, vi i11, vh i12, aC y13, aq y14, .loc 2 0 l15.length]), (2, .lst false none (List.map (eL (some 8) (eA8 (D.int .u16))) l15))], 3⟩
    have hc20 : ¬ (decide (i16 < (r3.1.length : Int)) = true) := fun hq => hgo18 (of_decide_eq_true hq)
    refine al ⟨tab [(0, .ptr 0 0 0), (1, .d (eL (some 8) (eA8 (D.int .u16)) l2)), (40, .d (eL (some 8) (eA8 (D.int .u16)) r3.1)), (41, vi (r3.1.length : Int)), (42, vi i16), (43, vb (decide (i16 < (r3.1.length : Int))))], ac [(0, .var [aq y7, aW y8, aG y9, vi i10, vi i11, vh i12, aC y13, aq y14, .loc 2 0 l15.length]), (2, .lst false none (List.map (eL (some 8) (eA8 (D.int .u16))) l15))], 3⟩ ?_ ?_
    ·
     refine q1 _ ?_
     exact nR [0, 1, 2]
    refine aF ?_
    refine aT (t := decide (i16 < (r3.1.length : Int))) rfl hc20 ?_
    refine aX (s0 := ⟨tab [], ac [(0, .var [aq y7, aW y8, aG y9, vi i10, vi i11, vh i12, aC y13, aq y14, .loc 2 0 l15.length]), (2, .lst false none (List.map (eL (some 8) (eA8 (D.int .u16))) l15))], 3⟩) (nr [0, 1, 2]) ?_
    refine cn ?_
    exact And.intro rfl rfl
   ·
    intro r' hq
    subst hq
    exact ar h
   rintro ⟨z44, z45, z46, z47, z48, z49, z50, z51, z52⟩ rfl
   refine al ⟨tab [(6, vi 0)], ac [(0, .var [aq z44, aW z45, aG z46, vi z47, vi z48, vh z49, aC z50, aq z51, .loc 2 0 z52.length]), (2, .lst false none (List.map (eL (some 8) (eA8 (D.int .u16))) z52))], 3⟩ ?_ ?_
   ·
    refine q1 _ ?_
    exact nR [0, 1, 2]
   have hh := ar h
   subst hh
   refine aN ?_
   exact ⟨.inr rfl, _, rfl, rfl, ct.sub ⟨rfl, rfl, trivial⟩, rfl⟩
theorem ob : ∀ (k : Nat) (a0 : cb) (a1 : (List (A8 Int))) (a2 : (A8 Int)) (r : (Int × cb)), kn k a0 a1 a2 = some r → bO Try.prog 68 [.ptr 0 0 0, .d (eL (some 8) (eA8 (D.int .u16)) a1), .d (eA8 (D.int .u16) a2)] (ac [(0, .var [aq a0.t.Switches, aW a0.t.Links, aG a0.t.Hosts, vi a0.p.Op, vi a0.p.F, vh a0.p.N, aC a0.p.Kids, aq a0.state, .loc 1 0 a0.found.length]), (1, .lst false none (List.map (eL (some 8) (eA8 (D.int .u16))) a0.found))]) 2 (vi r.1) (ac [(0, .var [aq r.2.t.Switches, aW r.2.t.Links, aG r.2.t.Hosts, vi r.2.p.Op, vi r.2.p.F, vh r.2.p.N, aC r.2.p.Kids, aq r.2.state, .loc 2 0 r.2.found.length]), (2, .lst false none (List.map (eL (some 8) (eA8 (D.int .u16))) r.2.found))]) 3
 | 0, _, _, _, _, h => by cases h
 | k + 1, _, _, _, _, h => uR (ob k) h
theorem uS {a0 : cb} {a1 : (List (A8 Int))} {a2 : (A8 Int)} {r : (Int × cb)} (h : nk a0 a1 a2 = some r) : bO Try.prog 68 [.ptr 0 0 0, .d (eL (some 8) (eA8 (D.int .u16)) a1), .d (eA8 (D.int .u16) a2)] (ac [(0, .var [aq a0.t.Switches, aW a0.t.Links, aG a0.t.Hosts, vi a0.p.Op, vi a0.p.F, vh a0.p.N, aC a0.p.Kids, aq a0.state, .loc 1 0 a0.found.length]), (1, .lst false none (List.map (eL (some 8) (eA8 (D.int .u16))) a0.found))]) 2 (vi r.1) (ac [(0, .var [aq r.2.t.Switches, aW r.2.t.Links, aG r.2.t.Hosts, vi r.2.p.Op, vi r.2.p.F, vh r.2.p.N, aC r.2.p.Kids, aq r.2.state, .loc 2 0 r.2.found.length]), (2, .lst false none (List.map (eL (some 8) (eA8 (D.int .u16))) r.2.found))]) 3 := ob dj _ _ _ _ h
end Go.AM
