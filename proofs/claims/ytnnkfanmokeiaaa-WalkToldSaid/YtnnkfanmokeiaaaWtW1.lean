import Derived.Test.YtnnkfanmokeiaaaWtE
set_option linter.unusedVariables false
set_option linter.unusedSimpArgs false
namespace Go.AM
open Go Go.RowKit Go.Proofs
set_option maxRecDepth 10000
attribute [local irreducible] aZ cg
set_option maxHeartbeats 2000000
theorem zw {self : ai → Option Int} (hself : ∀ (a0 : ai) (r : Int), self a0 = some r → PCall Try.prog 62 [bN a0] (.int .i64 r)) {a0 : ai} {r : Int} (h : k8 self a0 = some r) : PCall Try.prog 62 [bN a0] (.int .i64 r) := by
 refine PCall.introN xh (show 1 ≤ 19 by decide) ?_
 refine bb (s0 := ⟨tab [(0, vs1 a0)], ac [], 0⟩) (nr []) ?_
 refine am ⟨tab [(1, bk a0)], ac [], 0⟩ ?_ ?_
 ·
  iterate 2 refine q1 _ ?_
  exact nR []
 refine am ⟨tab [(1, bk a0), (3, vi 1)], ac [], 0⟩ ?_ ?_
 ·
  refine q1 _ ?_
  exact nR []
 refine aG ?_
 refine am ⟨tab [(3, vi 1), (7, ax a0.Kids), (8, vi (a0.Kids.length : Int)), (9, vi 0)], ac [], 0⟩ ?_ ?_
 ·
  iterate 2 refine q1 _ ?_
  refine step (v := vi (a0.Kids.length : Int)) (bF (xs := a0.Kids) (e := aN) rfl) ?_
  refine q1 _ ?_
  exact nR []
 obtain ⟨z10, hl, h⟩ := ay h
 refine bG ?_
 refine jU (cQ (a0.Kids.length : Int)) (fun (i2 : Int) (qq : Int) => ⟨tab [(3, vi qq), (7, ax a0.Kids), (8, vi (a0.Kids.length : Int)), (9, vi i2)], ac [], 0⟩) 0 (fun (qq : Int) => ⟨tab [(3, vi qq)], ac [], 0⟩) bK cR hl (by unfold bK; omega) ?_ ?_ ?_
 ·
  rintro i2 i1 xr7 hinv5 hgo4 h
  show aI _ _ _ _ _ ⟨tab [(3, vi i1), (7, ax a0.Kids), (8, vi (a0.Kids.length : Int)), (9, vi i2)], ac [], 0⟩
  have hc6 : decide (i2 < (a0.Kids.length : Int)) = true := decide_eq_true hgo4
  refine am ⟨tab [(3, vi i1), (7, ax a0.Kids), (8, vi (a0.Kids.length : Int)), (9, vi i2), (10, vb (decide (i2 < (a0.Kids.length : Int))))], ac [], 0⟩ ?_ ?_
  ·
   refine q1 _ ?_
   exact nR []
  refine c8 8 rfl fun hB3 => ?_
  refine aG ?_
  refine aY (t := decide (i2 < (a0.Kids.length : Int))) rfl hc6 ?_
  refine bh ?_
  refine aG ?_
  refine bG ?_
  obtain ⟨x8, hx8, h⟩ := ay h
  refine am ⟨tab [(3, vi i1), (5, .ptr 0 0 0), (7, ax a0.Kids), (8, vi (a0.Kids.length : Int)), (9, vi i2)], ac [(0, cK x8)], 1⟩ ?_ ?_
  ·
   refine step (v := bk x8) (gW (xs := a0.Kids) (e := aN) hx8 rfl rfl (dX _)) ?_
   refine q1 _ ?_
   refine step (v := .ptr 0 0 0) (σ' := (al (ac []) 0 (some (bz)))) (n' := 1) rfl ?_
   refine step (v := V.undef) (σ' := (al (al (ac []) 0 (some (bz))) 0 (some (cK x8)))) (n' := 1) rfl ?_
   exact nR [0]
  obtain ⟨r9, hr9, h⟩ := ay h
  refine bU ⟨tab [(3, vi (IntKind.i64.wrap (i1 + r9))), (7, ax a0.Kids), (8, vi (a0.Kids.length : Int)), (9, vi i2)], ac [], 0⟩ ?_ ?_
  ·
   refine q1 _ ?_
   refine step (v := vs1 x8) (cb (ds := [.int .i64 x8.Op, .int .i64 x8.F, .int .u16 x8.N, eL (some 4) aN x8.Kids]) rfl rfl (show 4 ≤ 4 by decide) rfl) ?_
   refine bC (r := .int .i64 r9) (aF aQ.nil') (hself _ _ hr9) ?_
   iterate 2 refine q1 _ ?_
   exact nR []
  have hh := aq h
  subst hh
  refine bU ⟨tab [(3, vi (IntKind.i64.wrap (i1 + r9))), (7, ax a0.Kids), (8, vi (a0.Kids.length : Int)), (9, vi (i2 + 1))], ac [], 0⟩ ?_ ?_
  ·
   refine step (v := vi (i2 + 1)) (cL (cM hinv5 hgo4 hB3) rfl rfl) ?_
   refine q1 _ ?_
   exact nR []
  exact And.intro rfl rfl
 ·
  rintro i2 i1 hinv5 hgo4
  show aI _ _ _ _ _ ⟨tab [(3, vi i1), (7, ax a0.Kids), (8, vi (a0.Kids.length : Int)), (9, vi i2)], ac [], 0⟩
  have hc6 : ¬ (decide (i2 < (a0.Kids.length : Int)) = true) := fun hq => hgo4 (of_decide_eq_true hq)
  refine am ⟨tab [(3, vi i1), (7, ax a0.Kids), (8, vi (a0.Kids.length : Int)), (9, vi i2), (10, vb (decide (i2 < (a0.Kids.length : Int))))], ac [], 0⟩ ?_ ?_
  ·
   refine q1 _ ?_
   exact nR []
  refine aG ?_
  refine aW (t := decide (i2 < (a0.Kids.length : Int))) rfl hc6 ?_
  refine bb (s0 := ⟨tab [(3, vi i1)], ac [], 0⟩) (nr []) ?_
  refine cI ?_
  exact And.intro rfl rfl
 refine am ⟨tab [(2, vi z10)], ac [], 0⟩ ?_ ?_
 ·
  iterate 2 refine q1 _ ?_
  exact nR []
 have hh := aq h
 subst hh
 refine aV ?_
 show FQ _ _ _ _
 exact br (.inr rfl) (bg (v := vi z10) rfl rfl) (RV.d trivial)
theorem sy : ∀ (k : Nat) (a0 : ai) (r : Int), i8 k a0 = some r → PCall Try.prog 62 [bN a0] (.int .i64 r)
 | 0, _, _, h => by cases h
 | k + 1, _, _, h => zw (sy k) h
theorem zy {a0 : ai} {r : Int} (h : np a0 = some r) : PCall Try.prog 62 [bN a0] (.int .i64 r) := sy dH _ _ h
theorem zA {self : ai → Option Int} (hself : ∀ (a0 : ai) (r : Int), self a0 = some r → PCall Try.prog 63 [bN a0] (.int .i64 r)) {a0 : ai} {r : Int} (h : k9 self a0 = some r) : PCall Try.prog 63 [bN a0] (.int .i64 r) := by
 refine PCall.introN xk (show 1 ≤ 20 by decide) ?_
 refine bb (s0 := ⟨tab [(0, vs1 a0)], ac [], 0⟩) (nr []) ?_
 refine am ⟨tab [(1, bk a0)], ac [], 0⟩ ?_ ?_
 ·
  iterate 2 refine q1 _ ?_
  exact nR []
 refine am ⟨tab [(1, bk a0), (3, vi 0)], ac [], 0⟩ ?_ ?_
 ·
  refine q1 _ ?_
  exact nR []
 refine aG ?_
 refine am ⟨tab [(3, vi 0), (7, ax a0.Kids), (8, vi (a0.Kids.length : Int)), (9, vi 0)], ac [], 0⟩ ?_ ?_
 ·
  iterate 2 refine q1 _ ?_
  refine step (v := vi (a0.Kids.length : Int)) (bF (xs := a0.Kids) (e := aN) rfl) ?_
  refine q1 _ ?_
  exact nR []
 obtain ⟨z10, hl, h⟩ := ay h
 refine bG ?_
 refine jU (cQ (a0.Kids.length : Int)) (fun (i2 : Int) (qq : Int) => ⟨tab [(3, vi qq), (7, ax a0.Kids), (8, vi (a0.Kids.length : Int)), (9, vi i2)], ac [], 0⟩) 0 (fun (qq : Int) => ⟨tab [(3, vi qq)], ac [], 0⟩) bK cR hl (by unfold bK; omega) ?_ ?_ ?_
 ·
  rintro i2 i1 xr7 hinv5 hgo4 h
  show aI _ _ _ _ _ ⟨tab [(3, vi i1), (7, ax a0.Kids), (8, vi (a0.Kids.length : Int)), (9, vi i2)], ac [], 0⟩
  have hc6 : decide (i2 < (a0.Kids.length : Int)) = true := decide_eq_true hgo4
  refine am ⟨tab [(3, vi i1), (7, ax a0.Kids), (8, vi (a0.Kids.length : Int)), (9, vi i2), (10, vb (decide (i2 < (a0.Kids.length : Int))))], ac [], 0⟩ ?_ ?_
  ·
   refine q1 _ ?_
   exact nR []
  refine c8 8 rfl fun hB3 => ?_
  refine aG ?_
  refine aY (t := decide (i2 < (a0.Kids.length : Int))) rfl hc6 ?_
  refine bh ?_
  refine aG ?_
  refine bG ?_
  obtain ⟨x8, hx8, h⟩ := ay h
  refine am ⟨tab [(3, vi i1), (5, .ptr 0 0 0), (7, ax a0.Kids), (8, vi (a0.Kids.length : Int)), (9, vi i2)], ac [(0, cK x8)], 1⟩ ?_ ?_
  ·
   refine step (v := bk x8) (gW (xs := a0.Kids) (e := aN) hx8 rfl rfl (dX _)) ?_
   refine q1 _ ?_
   refine step (v := .ptr 0 0 0) (σ' := (al (ac []) 0 (some (bz)))) (n' := 1) rfl ?_
   refine step (v := V.undef) (σ' := (al (al (ac []) 0 (some (bz))) 0 (some (cK x8)))) (n' := 1) rfl ?_
   exact nR [0]
  obtain ⟨r9, hr9, h⟩ := ay h
  refine bU ⟨tab [(3, vi (kM i1 r9)), (7, ax a0.Kids), (8, vi (a0.Kids.length : Int)), (9, vi i2)], ac [], 0⟩ ?_ ?_
  ·
   refine q1 _ ?_
   refine step (v := vs1 x8) (cb (ds := [.int .i64 x8.Op, .int .i64 x8.F, .int .u16 x8.N, eL (some 4) aN x8.Kids]) rfl rfl (show 4 ≤ 4 by decide) rfl) ?_
   refine bC (r := .int .i64 r9) (aF aQ.nil') (hself _ _ hr9) ?_
   iterate 2 refine q1 _ ?_
   exact nR []
  have hh := aq h
  subst hh
  refine bU ⟨tab [(3, vi (kM i1 r9)), (7, ax a0.Kids), (8, vi (a0.Kids.length : Int)), (9, vi (i2 + 1))], ac [], 0⟩ ?_ ?_
  ·
   refine step (v := vi (i2 + 1)) (cL (cM hinv5 hgo4 hB3) rfl rfl) ?_
   refine q1 _ ?_
   exact nR []
  exact And.intro rfl rfl
 ·
  rintro i2 i1 hinv5 hgo4
  show aI _ _ _ _ _ ⟨tab [(3, vi i1), (7, ax a0.Kids), (8, vi (a0.Kids.length : Int)), (9, vi i2)], ac [], 0⟩
  have hc6 : ¬ (decide (i2 < (a0.Kids.length : Int)) = true) := fun hq => hgo4 (of_decide_eq_true hq)
  refine am ⟨tab [(3, vi i1), (7, ax a0.Kids), (8, vi (a0.Kids.length : Int)), (9, vi i2), (10, vb (decide (i2 < (a0.Kids.length : Int))))], ac [], 0⟩ ?_ ?_
  ·
   refine q1 _ ?_
   exact nR []
  refine aG ?_
  refine aW (t := decide (i2 < (a0.Kids.length : Int))) rfl hc6 ?_
  refine bb (s0 := ⟨tab [(3, vi i1)], ac [], 0⟩) (nr []) ?_
  refine cI ?_
  exact And.intro rfl rfl
 refine am ⟨tab [(2, vi (IntKind.i64.wrap (z10 + 1)))], ac [], 0⟩ ?_ ?_
 ·
  iterate 3 refine q1 _ ?_
  exact nR []
 have hh := aq h
 subst hh
 refine aV ?_
 show FQ _ _ _ _
 exact br (.inr rfl) (bg (v := vi (IntKind.i64.wrap (z10 + 1))) rfl rfl) (RV.d trivial)
theorem sA : ∀ (k : Nat) (a0 : ai) (r : Int), i9 k a0 = some r → PCall Try.prog 63 [bN a0] (.int .i64 r)
 | 0, _, _, h => by cases h
 | k + 1, _, _, h => zA (sA k) h
theorem zB {a0 : ai} {r : Int} (h : nu a0 = some r) : PCall Try.prog 63 [bN a0] (.int .i64 r) := sA dH _ _ h
theorem zC {a0 : (List ai)} {a1 : ai → Option Bool} {g_a1 : D} (hf_a1 : qu Try.prog g_a1 bN D.bool a1) {r : Int} (h : la a0 a1 = some r) : PCall Try.prog 110 [eL (some 4) aN a0, g_a1] (.int .i64 r) := by
 obtain ⟨fn_a1, cap_a1, rfl, hc_a1⟩ := hf_a1
 refine PCall.introN xn (show 2 ≤ 19 by decide) ?_
 refine bb (s0 := ⟨tab [(0, ax a0), (1, .d (.func fn_a1 cap_a1))], ac [], 0⟩) (nr []) ?_
 refine am ⟨tab [(0, ax a0), (1, .d (.func fn_a1 cap_a1))], ac [], 0⟩ ?_ ?_
 ·
  refine q1 _ ?_
  exact nR []
 refine aG ?_
 refine am ⟨tab [(0, ax a0), (1, .d (.func fn_a1 cap_a1)), (7, vi (a0.length : Int)), (8, vi 0)], ac [], 0⟩ ?_ ?_
 ·
  refine q1 _ ?_
  refine step (v := vi (a0.length : Int)) (bF (xs := a0) (e := aN) rfl) ?_
  refine q1 _ ?_
  exact nR []
 obtain ⟨q10, hl, h⟩ := ay h
 refine bG ?_
 refine dp (cQ (a0.length : Int)) (fun (i1 : Int) (qq : Unit) => ⟨tab [(0, ax a0), (1, .d (.func fn_a1 cap_a1)), (7, vi (a0.length : Int)), (8, vi i1)], ac [], 0⟩) 0 (fun (qq : Unit) => ⟨tab [], ac [], 0⟩) bK cR (r := r) hl (by unfold bK; omega) ?_ ?_ ?_ ?_
 ·
  rintro i1 ⟨⟩ xr6 hinv4 hgo3 h
  show aI _ _ _ _ _ ⟨tab [(0, ax a0), (1, .d (.func fn_a1 cap_a1)), (7, vi (a0.length : Int)), (8, vi i1)], ac [], 0⟩
  have hc5 : decide (i1 < (a0.length : Int)) = true := decide_eq_true hgo3
  refine am ⟨tab [(0, ax a0), (1, .d (.func fn_a1 cap_a1)), (7, vi (a0.length : Int)), (8, vi i1), (9, vb (decide (i1 < (a0.length : Int))))], ac [], 0⟩ ?_ ?_
  ·
   refine q1 _ ?_
   exact nR []
  refine c8 7 rfl fun hB2 => ?_
  refine aG ?_
  refine aY (t := decide (i1 < (a0.length : Int))) rfl hc5 ?_
  refine bh ?_
  refine aG ?_
  refine bG ?_
  refine am ⟨tab [(0, ax a0), (1, .d (.func fn_a1 cap_a1)), (5, vi i1), (7, vi (a0.length : Int)), (8, vi i1)], ac [], 0⟩ ?_ ?_
  ·
   iterate 2 refine q1 _ ?_
   exact nR []
  obtain ⟨x7, hx7, h⟩ := ay h
  obtain ⟨x8, hx8, h⟩ := ay h
  refine am ⟨tab [(0, ax a0), (1, .d (.func fn_a1 cap_a1)), (5, vi i1), (7, vi (a0.length : Int)), (8, vi i1), (16, vb x8)], ac [], 0⟩ ?_ ?_
  ·
   iterate 3 refine q1 _ ?_
   refine step (v := bk x7) (gW (xs := a0) (e := aN) hx7 rfl rfl (dX _)) ?_
   refine q1 _ ?_
   refine uV (r := .bool x8) rfl (aF aQ.nil') (hc_a1 _ _ hx8) ?_
   exact nR []
  by_cases hc9 : x8 = true
  ·
   replace h := aO hc9 h
   refine aY (t := x8) rfl hc9 ?_
   refine am ⟨tab [(4, vi i1)], ac [], 0⟩ ?_ ?_
   ·
    iterate 2 refine q1 _ ?_
    exact nR []
   obtain ⟨r10, kr10, hr⟩ := cq (o := some i1) (g := Br.ret) h
   subst hr
   have h := kr10
   have hh := aq h
   subst hh
   refine aV ?_
   refine And.intro (fun hn => nomatch hn) ?_
   intro hq
   have hq := hq.symm
   subst hq
   show FQ _ _ _ _
   exact br (.inr rfl) (bg (v := vi i1) rfl rfl) (RV.d trivial)
  ·
   replace h := aP hc9 h
   refine aW (t := x8) rfl hc9 ?_
   refine bh ?_
   have hh := aq h
   subst hh
   refine bU ⟨tab [(0, ax a0), (1, .d (.func fn_a1 cap_a1)), (7, vi (a0.length : Int)), (8, vi (i1 + 1))], ac [], 0⟩ ?_ ?_
   ·
    refine step (v := vi (i1 + 1)) (cL (cM hinv4 hgo3 hB2) rfl rfl) ?_
    refine q1 _ ?_
    exact nR []
   exact And.intro rfl rfl
 ·
  rintro i1 ⟨⟩ hinv4 hgo3
  show aI _ _ _ _ _ ⟨tab [(0, ax a0), (1, .d (.func fn_a1 cap_a1)), (7, vi (a0.length : Int)), (8, vi i1)], ac [], 0⟩
  have hc5 : ¬ (decide (i1 < (a0.length : Int)) = true) := fun hq => hgo3 (of_decide_eq_true hq)
  refine am ⟨tab [(0, ax a0), (1, .d (.func fn_a1 cap_a1)), (7, vi (a0.length : Int)), (8, vi i1), (9, vb (decide (i1 < (a0.length : Int))))], ac [], 0⟩ ?_ ?_
  ·
   refine q1 _ ?_
   exact nR []
  refine aG ?_
  refine aW (t := decide (i1 < (a0.length : Int))) rfl hc5 ?_
  refine bb (s0 := ⟨tab [], ac [], 0⟩) (nr []) ?_
  refine cI ?_
  exact And.intro rfl rfl
 ·
  intro r' hq
  subst hq
  exact aq h
 rintro ⟨⟩ rfl
 refine am ⟨tab [(4, vi (-1))], ac [], 0⟩ ?_ ?_
 ·
  refine q1 _ ?_
  exact nR []
 have hh := aq h
 subst hh
 refine aV ?_
 show FQ _ _ _ _
 exact br (.inr rfl) (bg (v := vi (-1)) rfl rfl) (RV.d trivial)
theorem sB {a0 : (List ai)} {a1 : ai → Option Bool} {g_a1 : D} (hf_a1 : qu Try.prog g_a1 bN D.bool a1) {r : Bool} (h : iw a0 a1 = some r) : PCall Try.prog 98 [eL (some 4) aN a0, g_a1] (.bool r) := by
 obtain ⟨fn_a1, cap_a1, rfl, hc_a1⟩ := hf_a1
 refine PCall.introN xp (show 2 ≤ 9 by decide) ?_
 refine bb (s0 := ⟨tab [(0, ax a0), (1, .d (.func fn_a1 cap_a1))], ac [], 0⟩) (nr []) ?_
 refine am ⟨tab [(0, ax a0), (1, .d (.func fn_a1 cap_a1))], ac [], 0⟩ ?_ ?_
 ·
  refine q1 _ ?_
  exact nR []
 obtain ⟨r1, hr1, h⟩ := ay h
 refine am ⟨tab [(4, vb (decide (r1 ≥ 0)))], ac [], 0⟩ ?_ ?_
 ·
  iterate 2 refine q1 _ ?_
  refine bC (r := .int .i64 r1) (aF (aF aQ.nil')) (zC ⟨_, _, rfl, hc_a1⟩ hr1) ?_
  iterate 2 refine q1 _ ?_
  exact nR []
 have hh := aq h
 subst hh
 refine aV ?_
 show FQ _ _ _ _
 exact br (.inr rfl) (bg (v := vb (decide (r1 ≥ 0))) rfl rfl) (RV.d trivial)
theorem zD {self : ai → Option Bool} (hself : ∀ (b0 : ai) (r : Bool), self b0 = some r → PCall Try.prog 97 [bN b0] (.bool r)) {a0 : ai} {r : Bool} (h : lb self a0 = some r) : PCall Try.prog 109 [bN a0] (.bool r) := by
 refine PCall.introN xr (show 1 ≤ 6 by decide) ?_
 refine bb (s0 := ⟨tab [(0, vs1 a0)], ac [], 0⟩) (nr []) ?_
 refine am ⟨tab [(1, bk a0)], ac [], 0⟩ ?_ ?_
 ·
  iterate 2 refine q1 _ ?_
  exact nR []
 obtain ⟨r1, hr1, h⟩ := ay h
 refine am ⟨tab [(2, vb (!r1))], ac [], 0⟩ ?_ ?_
 ·
  refine q1 _ ?_
  refine bC (r := .bool r1) (aF aQ.nil') (hself _ _ hr1) ?_
  iterate 2 refine q1 _ ?_
  exact nR []
 have hh := aq h
 subst hh
 refine aV ?_
 show FQ _ _ _ _
 exact br (.inr rfl) (bg (v := vb (!r1)) rfl rfl) (RV.d trivial)
theorem zE {self : ai → Option Bool} (hself : ∀ (a0 : ai) (r : Bool), self a0 = some r → PCall Try.prog 97 [bN a0] (.bool r)) {a0 : ai} {r : Bool} (h : lf self a0 = some r) : PCall Try.prog 97 [bN a0] (.bool r) := by
 refine PCall.introN xu (show 1 ≤ 18 by decide) ?_
 refine bb (s0 := ⟨tab [(0, vs1 a0)], ac [], 0⟩) (nr []) ?_
 refine am ⟨tab [(1, bk a0)], ac [], 0⟩ ?_ ?_
 ·
  iterate 2 refine q1 _ ?_
  exact nR []
 refine aG ?_
 refine am ⟨tab [(1, bk a0), (4, vi a0.Op)], ac [], 0⟩ ?_ ?_
 ·
  iterate 2 refine q1 _ ?_
  exact nR []
 refine bG ?_
 obtain ⟨y5, hv, h⟩ := ay h
 refine gV ⟨tab [(1, bk a0), (4, vi a0.Op), (5, vb y5)], ac [], 0⟩ ?_ ?_
 ·
  replace h := hv
  refine am ⟨tab [(1, bk a0), (4, vi a0.Op), (5, vb (a0.Op == 0))], ac [], 0⟩ ?_ ?_
  ·
   iterate 2 refine q1 _ ?_
   exact nR []
  by_cases hc1 : (a0.Op == 0) = true
  ·
   replace h := aO hc1 h
   refine aY (t := (a0.Op == 0)) rfl hc1 ?_
   have hh := aq h
   subst hh
   refine bb (s0 := ⟨tab [(1, bk a0), (4, vi a0.Op), (5, vb (a0.Op == 0))], ac [], 0⟩) (nr []) ?_
   refine bh ?_
   exact And.intro rfl rfl
  ·
   replace h := aP hc1 h
   refine aW (t := (a0.Op == 0)) rfl hc1 ?_
   refine am ⟨tab [(1, bk a0), (4, vi a0.Op), (5, vb (a0.Op == 1))], ac [], 0⟩ ?_ ?_
   ·
    iterate 2 refine q1 _ ?_
    exact nR []
   by_cases hc2 : (a0.Op == 1) = true
   ·
    replace h := aO hc2 h
    refine aY (t := (a0.Op == 1)) rfl hc2 ?_
    have hh := aq h
    subst hh
    refine bb (s0 := ⟨tab [(1, bk a0), (4, vi a0.Op), (5, vb (a0.Op == 1))], ac [], 0⟩) (nr []) ?_
    refine bh ?_
    exact And.intro rfl rfl
   ·
    replace h := aP hc2 h
    refine aW (t := (a0.Op == 1)) rfl hc2 ?_
    refine am ⟨tab [(1, bk a0), (4, vi a0.Op), (5, vb (a0.Op == 2))], ac [], 0⟩ ?_ ?_
    ·
     iterate 2 refine q1 _ ?_
     exact nR []
    by_cases hc3 : (a0.Op == 2) = true
    ·
     replace h := aO hc3 h
     refine aY (t := (a0.Op == 2)) rfl hc3 ?_
     have hh := aq h
     subst hh
     refine bb (s0 := ⟨tab [(1, bk a0), (4, vi a0.Op), (5, vb (a0.Op == 2))], ac [], 0⟩) (nr []) ?_
     refine bh ?_
     exact And.intro rfl rfl
    ·
     replace h := aP hc3 h
     refine aW (t := (a0.Op == 2)) rfl hc3 ?_
     refine am ⟨tab [(1, bk a0), (4, vi a0.Op), (5, vb (a0.Op == 3))], ac [], 0⟩ ?_ ?_
     ·
      iterate 2 refine q1 _ ?_
      exact nR []
     by_cases hc4 : (a0.Op == 3) = true
     ·
      replace h := aO hc4 h
      refine aY (t := (a0.Op == 3)) rfl hc4 ?_
      have hh := aq h
      subst hh
      refine bb (s0 := ⟨tab [(1, bk a0), (4, vi a0.Op), (5, vb (a0.Op == 3))], ac [], 0⟩) (nr []) ?_
      refine bh ?_
      exact And.intro rfl rfl
     ·
      replace h := aP hc4 h
      refine aW (t := (a0.Op == 3)) rfl hc4 ?_
      have hh := aq h
      subst hh
      refine bU ⟨tab [(1, bk a0), (4, vi a0.Op), (5, vb (a0.Op == 4))], ac [], 0⟩ ?_ ?_
      ·
       iterate 2 refine q1 _ ?_
       exact nR []
      exact And.intro rfl rfl
 by_cases hc7 : y5 = true
 ·
  replace h := aO hc7 h
  refine aY (t := y5) rfl hc7 ?_
  refine am ⟨tab [(2, vb true)], ac [], 0⟩ ?_ ?_
  ·
   refine q1 _ ?_
   exact nR []
  have hh := aq h
  subst hh
  refine aV ?_
  show FQ _ _ _ _
  exact br (.inr rfl) (bg (v := vb true) rfl rfl) (RV.d trivial)
 ·
  replace h := aP hc7 h
  refine aW (t := y5) rfl hc7 ?_
  obtain ⟨y9, hv, h⟩ := ay h
  refine gV ⟨tab [(1, bk a0), (11, vb y9)], ac [], 0⟩ ?_ ?_
  ·
   replace h := hv
   refine am ⟨tab [(1, bk a0), (4, vi a0.Op), (11, vb (a0.Op == 6))], ac [], 0⟩ ?_ ?_
   ·
    iterate 2 refine q1 _ ?_
    exact nR []
   by_cases hc8 : (a0.Op == 6) = true
   ·
    replace h := aO hc8 h
    refine aY (t := (a0.Op == 6)) rfl hc8 ?_
    have hh := aq h
    subst hh
    refine bb (s0 := ⟨tab [(1, bk a0), (11, vb (a0.Op == 6))], ac [], 0⟩) (nr []) ?_
    refine bh ?_
    exact And.intro rfl rfl
   ·
    replace h := aP hc8 h
    refine aW (t := (a0.Op == 6)) rfl hc8 ?_
    have hh := aq h
    subst hh
    refine bU ⟨tab [(1, bk a0), (11, vb (a0.Op == 7))], ac [], 0⟩ ?_ ?_
    ·
     iterate 2 refine q1 _ ?_
     exact nR []
    exact And.intro rfl rfl
  by_cases hc11 : y9 = true
  ·
   replace h := aO hc11 h
   refine aY (t := y9) rfl hc11 ?_
   obtain ⟨r12, hr12, h⟩ := ay h
   refine am ⟨tab [(2, vb (!r12))], ac [], 0⟩ ?_ ?_
   ·
    iterate 2 refine q1 _ ?_
    refine bC (r := .bool r12) (aF (aF aQ.nil')) (sB ⟨109, [], rfl, fun _ _ h => zD hself h⟩ hr12) ?_
    iterate 2 refine q1 _ ?_
    exact nR []
   have hh := aq h
   subst hh
   refine aV ?_
   show FQ _ _ _ _
   exact br (.inr rfl) (bg (v := vb (!r12)) rfl rfl) (RV.d trivial)
  ·
   replace h := aP hc11 h
   refine aW (t := y9) rfl hc11 ?_
   refine bh ?_
   refine am ⟨tab [(2, vb false)], ac [], 0⟩ ?_ ?_
   ·
    refine q1 _ ?_
    exact nR []
   have hh := aq h
   subst hh
   refine aV ?_
   show FQ _ _ _ _
   exact br (.inr rfl) (bg (v := vb false) rfl rfl) (RV.d trivial)
theorem sC : ∀ (k : Nat) (a0 : ai) (r : Bool), ja k a0 = some r → PCall Try.prog 97 [bN a0] (.bool r)
 | 0, _, _, h => by cases h
 | k + 1, _, _, h => zE (sC k) h
theorem zF {a0 : ai} {r : Bool} (h : nv a0 = some r) : PCall Try.prog 97 [bN a0] (.bool r) := sC dH _ _ h
theorem zG {self : ai → Int → Option Bool} (hself : ∀ (b0 : ai) (b1 : Int) (r : Bool), self b0 b1 = some r → PCall Try.prog 75 [bN b0, .int .i64 b1] (.bool r)) {a0 : ai} {a1 : Int} {r : Bool} (h : lg self a0 a1 = some r) : PCall Try.prog 99 [bN a0, .cptr none (.int .i64 a1) 0] (.bool r) := by
 refine PCall.introN xx (show 2 ≤ 8 by decide) ?_
 refine bb (s0 := ⟨tab [(0, vs1 a0), (1, .d (.cptr none (.int .i64 a1) 0))], ac [], 0⟩) (nr []) ?_
 refine am ⟨tab [(1, .d (.cptr none (.int .i64 a1) 0)), (2, bk a0)], ac [], 0⟩ ?_ ?_
 ·
  iterate 2 refine q1 _ ?_
  exact nR []
 obtain ⟨r1, hr1, h⟩ := ay h
 refine am ⟨tab [(3, vb (!r1))], ac [], 0⟩ ?_ ?_
 ·
  iterate 2 refine q1 _ ?_
  refine bC (r := .bool r1) (aF (aF aQ.nil')) (hself _ _ _ hr1) ?_
  iterate 2 refine q1 _ ?_
  exact nR []
 have hh := aq h
 subst hh
 refine aV ?_
 show FQ _ _ _ _
 exact br (.inr rfl) (bg (v := vb (!r1)) rfl rfl) (RV.d trivial)
theorem zH {self : ai → Int → Option Bool} (hself : ∀ (a0 : ai) (a1 : Int) (r : Bool), self a0 a1 = some r → PCall Try.prog 75 [bN a0, .int .i64 a1] (.bool r)) {a0 : ai} {a1 : Int} {r : Bool} (h : lh self a0 a1 = some r) : PCall Try.prog 75 [bN a0, .int .i64 a1] (.bool r) := by
 refine PCall.introN xz (show 2 ≤ 92 by decide) ?_
 refine bb (s0 := ⟨tab [(0, vs1 a0), (1, vi a1)], ac [], 0⟩) (nr []) ?_
 refine am ⟨tab [(2, bk a0), (3, .d (.cptr none (.int .i64 a1) 0))], ac [], 0⟩ ?_ ?_
 ·
  iterate 3 refine q1 _ ?_
  exact nR []
 refine am ⟨tab [(2, bk a0), (3, .d (.cptr none (.int .i64 a1) 0)), (5, vb ((a0.F == 0) && (a0.N == 0)))], ac [], 0⟩ ?_ ?_
 ·
  iterate 4 refine q1 _ ?_
  by_cases hg1 : (a0.F == 0) = true
  ·
   refine qG _ hg1 ?_
   refine q1 _ ?_
   refine qG _ hg1 ?_
   refine q1 _ ?_
   refine qG _ hg1 ?_
   refine q1 _ ?_
   refine step (v := vb (a0.N == 0)) (bw (b := (a0.F == 0)) rfl hg1 rfl) ?_
   refine q1 _ ?_
   exact aZ.nil' (nm [] ⟨.d _, .d _, .eq (by first | (simp [hg1]; done) | (simp_all; done) | grind), trivial⟩ trivial)
  ·
   iterate 3 refine qX _ hg1 ?_
   refine step (v := vb false) (bp (b := (a0.F == 0)) rfl hg1 rfl) ?_
   refine q1 _ ?_
   exact aZ.nil' (nm [] ⟨.d _, .d _, .eq (by first | (simp [hg1]; done) | (simp_all; done) | grind), trivial⟩ trivial)
 refine am ⟨tab [(2, bk a0), (3, .d (.cptr none (.int .i64 a1) 0)), (5, vb ((a0.F == 0) && (a0.N == 0))), (6, vi 0), (7, vi 8)], ac [], 0⟩ ?_ ?_
 ·
  iterate 2 refine q1 _ ?_
  exact nR []
 obtain ⟨q30, hv, h⟩ := ay h
 refine mW (fun (qq : (Int × Int)) => ⟨tab [(2, bk a0), (6, vi qq.1), (7, vi qq.2)], ac [], 0⟩) (xv := q30) (r := r) ?_ ?_ ?_
 ·
  replace h := hv
  refine am ⟨tab [(2, bk a0), (3, .d (.cptr none (.int .i64 a1) 0)), (5, vb ((a0.F == 0) && (a0.N == 0))), (6, vi 0), (7, vi 8), (17, vi a0.Op)], ac [], 0⟩ ?_ ?_
  ·
   iterate 2 refine q1 _ ?_
   exact nR []
  refine bG ?_
  obtain ⟨y3, hv, h⟩ := ay h
  refine gV ⟨tab [(2, bk a0), (3, .d (.cptr none (.int .i64 a1) 0)), (5, vb ((a0.F == 0) && (a0.N == 0))), (6, vi 0), (7, vi 8), (17, vi a0.Op), (18, vb y3)], ac [], 0⟩ ?_ ?_
  ·
   replace h := hv
   refine am ⟨tab [(2, bk a0), (3, .d (.cptr none (.int .i64 a1) 0)), (5, vb ((a0.F == 0) && (a0.N == 0))), (6, vi 0), (7, vi 8), (17, vi a0.Op), (18, vb (a0.Op == 0))], ac [], 0⟩ ?_ ?_
   ·
    iterate 2 refine q1 _ ?_
    exact nR []
   by_cases hc2 : (a0.Op == 0) = true
   ·
    replace h := aO hc2 h
    refine aY (t := (a0.Op == 0)) rfl hc2 ?_
    have hh := aq h
    subst hh
    refine bb (s0 := ⟨tab [(2, bk a0), (3, .d (.cptr none (.int .i64 a1) 0)), (5, vb ((a0.F == 0) && (a0.N == 0))), (6, vi 0), (7, vi 8), (17, vi a0.Op), (18, vb (a0.Op == 0))], ac [], 0⟩) (nr []) ?_
    refine bh ?_
    exact And.intro rfl rfl
   ·
    replace h := aP hc2 h
    refine aW (t := (a0.Op == 0)) rfl hc2 ?_
    have hh := aq h
    subst hh
    refine bU ⟨tab [(2, bk a0), (3, .d (.cptr none (.int .i64 a1) 0)), (5, vb ((a0.F == 0) && (a0.N == 0))), (6, vi 0), (7, vi 8), (17, vi a0.Op), (18, vb (a0.Op == 1))], ac [], 0⟩ ?_ ?_
    ·
     iterate 2 refine q1 _ ?_
     exact nR []
    exact And.intro rfl rfl
  by_cases hc5 : y3 = true
  ·
   replace h := aO hc5 h
   refine aY (t := y3) rfl hc5 ?_
   refine am ⟨tab [(4, vb (((a0.Kids.length : Int) == 0) && ((a0.F == 0) && (a0.N == 0))))], ac [], 0⟩ ?_ ?_
   ·
    iterate 2 refine q1 _ ?_
    refine step (v := vi (a0.Kids.length : Int)) (bF (xs := a0.Kids) (e := aN) rfl) ?_
    iterate 2 refine q1 _ ?_
    by_cases hg6 : ((a0.Kids.length : Int) == 0) = true
    ·
     refine qG _ hg6 ?_
     refine q1 _ ?_
     refine step (v := vb ((a0.F == 0) && (a0.N == 0))) (bw (b := ((a0.Kids.length : Int) == 0)) rfl hg6 rfl) ?_
     refine q1 _ ?_
     exact aZ.nil' (nm [] ⟨.eq (by first | (simp [hg6]; done) | (simp_all; done) | grind), trivial⟩ trivial)
    ·
     refine qX _ hg6 ?_
     refine step (v := vb false) (bp (b := ((a0.Kids.length : Int) == 0)) rfl hg6 rfl) ?_
     refine q1 _ ?_
     exact aZ.nil' (nm [] ⟨.eq (by first | (simp [hg6]; done) | (simp_all; done) | grind), trivial⟩ trivial)
   obtain ⟨r7, kr7, hr⟩ := cq (o := some (((a0.Kids.length : Int) == 0) && ((a0.F == 0) && (a0.N == 0)))) (g := Sum.inr) h
   subst hr
   have h := kr7
   have hh := aq h
   subst hh
   refine aV ?_
   refine And.intro (fun hn => nomatch hn) ?_
   intro hq
   have hq := hq.symm
   subst hq
   show FQ _ _ _ _
   exact br (.inr rfl) (bg (v := vb (((a0.Kids.length : Int) == 0) && ((a0.F == 0) && (a0.N == 0)))) rfl rfl) (RV.d trivial)
  ·
   replace h := aP hc5 h
   refine aW (t := y3) rfl hc5 ?_
   refine am ⟨tab [(2, bk a0), (3, .d (.cptr none (.int .i64 a1) 0)), (5, vb ((a0.F == 0) && (a0.N == 0))), (6, vi 0), (7, vi 8), (17, vi a0.Op), (28, vb (a0.Op == 4))], ac [], 0⟩ ?_ ?_
   ·
    iterate 2 refine q1 _ ?_
    exact nR []
   by_cases hc7 : (a0.Op == 4) = true
   ·
    replace h := aO hc7 h
    refine aY (t := (a0.Op == 4)) rfl hc7 ?_
    obtain ⟨y14, hv, h⟩ := ay h
    refine am ⟨tab [(4, vb y14)], ac [], 0⟩ ?_ ?_
    ·
     iterate 2 refine q1 _ ?_
     refine step (v := vi (a0.Kids.length : Int)) (bF (xs := a0.Kids) (e := aN) rfl) ?_
     iterate 2 refine q1 _ ?_
     by_cases hg8 : ((a0.Kids.length : Int) == 1) = true
     ·
      replace hv := aO hg8 hv
      refine qG _ hg8 ?_
      refine q1 _ ?_
      refine step (v := vb ((a0.F == 0) && (a0.N == 0))) (bw (b := ((a0.Kids.length : Int) == 1)) rfl hg8 rfl) ?_
      refine q1 _ ?_
      by_cases hg9 : ((a0.F == 0) && (a0.N == 0)) = true
      ·
       replace hv := aO hg9 hv
       obtain ⟨x10, hx10, hv⟩ := ay hv
       obtain ⟨r11, hr11, hv⟩ := ay hv
       refine qG _ hg9 ?_
       refine q1 _ ?_
       refine qG _ hg9 ?_
       refine q1 _ ?_
       refine qG _ hg9 ?_
       refine step (v := bk x10) (gW (xs := a0.Kids) (e := aN) hx10 rfl rfl (dX _)) ?_
       refine qG _ hg9 ?_
       refine q1 _ ?_
       refine qG _ hg9 ?_
       refine bC (r := .bool r11) (aF aQ.nil') (zF hr11) ?_
       refine step (v := vb r11) (bw (b := ((a0.F == 0) && (a0.N == 0))) rfl hg9 rfl) ?_
       refine q1 _ ?_
       by_cases hg12 : r11 = true
       ·
        replace hv := aO hg12 hv
        obtain ⟨r13, hr13, hv⟩ := ay hv
        refine qG _ hg12 ?_
        refine q1 _ ?_
        refine qG _ hg12 ?_
        refine q1 _ ?_
        refine qG _ hg12 ?_
        refine step (v := bk x10) (gW (xs := a0.Kids) (e := aN) hx10 rfl rfl (dX _)) ?_
        refine qG _ hg12 ?_
        refine q1 _ ?_
        refine qG _ hg12 ?_
        refine q1 _ ?_
        refine qG _ hg12 ?_
        refine bC (r := .bool r13) (aF (aF aQ.nil')) (hself _ _ _ hr13) ?_
        refine step (v := vb r13) (bw (b := r11) rfl hg12 rfl) ?_
        refine q1 _ ?_
        have hh := aq hv
        subst hh
        exact nR []
       ·
        replace hv := aP hg12 hv
        iterate 6 refine qX _ hg12 ?_
        refine step (v := vb false) (bp (b := r11) rfl hg12 rfl) ?_
        refine q1 _ ?_
        have hh := aq hv
        subst hh
        exact nR []
      ·
       replace hv := aP hg9 hv
       iterate 5 refine qX _ hg9 ?_
       refine step (v := vb false) (bp (b := ((a0.F == 0) && (a0.N == 0))) rfl hg9 rfl) ?_
       refine q1 _ ?_
       iterate 6 refine qX false (by decide) ?_
       refine step (v := vb false) (bp (b := false) rfl (by decide) rfl) ?_
       refine q1 _ ?_
       have hh := aq hv
       subst hh
       exact nR []
     ·
      replace hv := aP hg8 hv
      refine qX _ hg8 ?_
      refine step (v := vb false) (bp (b := ((a0.Kids.length : Int) == 1)) rfl hg8 rfl) ?_
      refine q1 _ ?_
      iterate 5 refine qX false (by decide) ?_
      refine step (v := vb false) (bp (b := false) rfl (by decide) rfl) ?_
      refine q1 _ ?_
      iterate 6 refine qX false (by decide) ?_
      refine step (v := vb false) (bp (b := false) rfl (by decide) rfl) ?_
      refine q1 _ ?_
      have hh := aq hv
      subst hh
      exact nR []
    obtain ⟨r16, kr16, hr⟩ := cq (o := some y14) (g := Sum.inr) h
    subst hr
    have h := kr16
    have hh := aq h
    subst hh
    refine aV ?_
    refine And.intro (fun hn => nomatch hn) ?_
    intro hq
    have hq := hq.symm
    subst hq
    show FQ _ _ _ _
    exact br (.inr rfl) (bg (v := vb y14) rfl rfl) (RV.d trivial)
   ·
    replace h := aP hc7 h
    refine aW (t := (a0.Op == 4)) rfl hc7 ?_
    obtain ⟨y17, hv, h⟩ := ay h
    refine gV ⟨tab [(2, bk a0), (3, .d (.cptr none (.int .i64 a1) 0)), (5, vb ((a0.F == 0) && (a0.N == 0))), (6, vi 0), (7, vi 8), (17, vi a0.Op), (52, vb y17)], ac [], 0⟩ ?_ ?_
    ·
     replace h := hv
     refine am ⟨tab [(2, bk a0), (3, .d (.cptr none (.int .i64 a1) 0)), (5, vb ((a0.F == 0) && (a0.N == 0))), (6, vi 0), (7, vi 8), (17, vi a0.Op), (52, vb (a0.Op == 6))], ac [], 0⟩ ?_ ?_
     ·
      iterate 2 refine q1 _ ?_
      exact nR []
     by_cases hc16 : (a0.Op == 6) = true
     ·
      replace h := aO hc16 h
      refine aY (t := (a0.Op == 6)) rfl hc16 ?_
      have hh := aq h
      subst hh
      refine bb (s0 := ⟨tab [(2, bk a0), (3, .d (.cptr none (.int .i64 a1) 0)), (5, vb ((a0.F == 0) && (a0.N == 0))), (6, vi 0), (7, vi 8), (17, vi a0.Op), (52, vb (a0.Op == 6))], ac [], 0⟩) (nr []) ?_
      refine bh ?_
      exact And.intro rfl rfl
     ·
      replace h := aP hc16 h
      refine aW (t := (a0.Op == 6)) rfl hc16 ?_
      have hh := aq h
      subst hh
      refine bU ⟨tab [(2, bk a0), (3, .d (.cptr none (.int .i64 a1) 0)), (5, vb ((a0.F == 0) && (a0.N == 0))), (6, vi 0), (7, vi 8), (17, vi a0.Op), (52, vb (a0.Op == 7))], ac [], 0⟩ ?_ ?_
      ·
       iterate 2 refine q1 _ ?_
       exact nR []
      exact And.intro rfl rfl
    by_cases hc19 : y17 = true
    ·
     replace h := aO hc19 h
     refine aY (t := y17) rfl hc19 ?_
     obtain ⟨y23, hv, h⟩ := ay h
     refine am ⟨tab [(4, vb y23)], ac [], 0⟩ ?_ ?_
     ·
      iterate 2 refine q1 _ ?_
      refine step (v := vi (a0.Kids.length : Int)) (bF (xs := a0.Kids) (e := aN) rfl) ?_
      iterate 2 refine q1 _ ?_
      by_cases hg20 : decide ((a0.Kids.length : Int) ≥ 2) = true
      ·
       replace hv := aO hg20 hv
       refine qG _ hg20 ?_
       refine q1 _ ?_
       refine step (v := vb ((a0.F == 0) && (a0.N == 0))) (bw (b := decide ((a0.Kids.length : Int) ≥ 2)) rfl hg20 rfl) ?_
       refine q1 _ ?_
       by_cases hg21 : ((a0.F == 0) && (a0.N == 0)) = true
       ·
        replace hv := aO hg21 hv
        obtain ⟨r22, hr22, hv⟩ := ay hv
        refine qG _ hg21 ?_
        refine q1 _ ?_
        refine qG _ hg21 ?_
        refine q1 _ ?_
        refine qG _ hg21 ?_
        refine q1 _ ?_
        refine qG _ hg21 ?_
        refine bC (r := .bool r22) (aF (aF aQ.nil')) (sB ⟨99, [.cptr none (.int .i64 a1) 0], rfl, fun _ _ h => zG hself h⟩ hr22) ?_
        refine qG _ hg21 ?_
        refine q1 _ ?_
        refine step (v := vb (!r22)) (bw (b := ((a0.F == 0) && (a0.N == 0))) rfl hg21 rfl) ?_
        refine q1 _ ?_
        have hh := aq hv
        subst hh
        exact nR []
       ·
        replace hv := aP hg21 hv
        iterate 5 refine qX _ hg21 ?_
        refine step (v := vb false) (bp (b := ((a0.F == 0) && (a0.N == 0))) rfl hg21 rfl) ?_
        refine q1 _ ?_
        have hh := aq hv
        subst hh
        exact nR []
      ·
       replace hv := aP hg20 hv
       refine qX _ hg20 ?_
       refine step (v := vb false) (bp (b := decide ((a0.Kids.length : Int) ≥ 2)) rfl hg20 rfl) ?_
       refine q1 _ ?_
       iterate 5 refine qX false (by decide) ?_
       refine step (v := vb false) (bp (b := false) rfl (by decide) rfl) ?_
       refine q1 _ ?_
       have hh := aq hv
       subst hh
       exact nR []
     obtain ⟨r25, kr25, hr⟩ := cq (o := some y23) (g := Sum.inr) h
     subst hr
     have h := kr25
     have hh := aq h
     subst hh
     refine aV ?_
     refine And.intro (fun hn => nomatch hn) ?_
     intro hq
     have hq := hq.symm
     subst hq
     show FQ _ _ _ _
     exact br (.inr rfl) (bg (v := vb y23) rfl rfl) (RV.d trivial)
    ·
     replace h := aP hc19 h
     refine aW (t := y17) rfl hc19 ?_
     refine am ⟨tab [(2, bk a0), (3, .d (.cptr none (.int .i64 a1) 0)), (6, vi 0), (7, vi 8), (17, vi a0.Op), (69, vb (a0.Op == 2))], ac [], 0⟩ ?_ ?_
     ·
      iterate 2 refine q1 _ ?_
      exact nR []
     by_cases hc25 : (a0.Op == 2) = true
     ·
      replace h := aO hc25 h
      refine aY (t := (a0.Op == 2)) rfl hc25 ?_
      have hh := aq h
      subst hh
      refine bb (s0 := ⟨tab [(2, bk a0), (6, vi 0), (7, vi 8)], ac [], 0⟩) (nr []) ?_
      refine bh ?_
      exact And.intro rfl rfl
     ·
      replace h := aP hc25 h
      refine aW (t := (a0.Op == 2)) rfl hc25 ?_
      refine am ⟨tab [(2, bk a0), (3, .d (.cptr none (.int .i64 a1) 0)), (6, vi 0), (7, vi 8), (17, vi a0.Op), (71, vb (a0.Op == 5))], ac [], 0⟩ ?_ ?_
      ·
       iterate 2 refine q1 _ ?_
       exact nR []
      by_cases hc26 : (a0.Op == 5) = true
      ·
       replace h := aO hc26 h
       refine aY (t := (a0.Op == 5)) rfl hc26 ?_
       have hh := aq h
       subst hh
       refine bU ⟨tab [(2, bk a0), (6, vi 1), (7, vi 8)], ac [], 0⟩ ?_ ?_
       ·
        refine q1 _ ?_
        exact nR []
       exact And.intro rfl rfl
      ·
       replace h := aP hc26 h
       refine aW (t := (a0.Op == 5)) rfl hc26 ?_
       refine am ⟨tab [(2, bk a0), (3, .d (.cptr none (.int .i64 a1) 0)), (6, vi 0), (73, vb (a0.Op == 3))], ac [], 0⟩ ?_ ?_
       ·
        iterate 2 refine q1 _ ?_
        exact nR []
       by_cases hc27 : (a0.Op == 3) = true
       ·
        replace h := aO hc27 h
        refine aY (t := (a0.Op == 3)) rfl hc27 ?_
        have hh := aq h
        subst hh
        refine bU ⟨tab [(2, bk a0), (6, vi 0), (7, vi a1)], ac [], 0⟩ ?_ ?_
        ·
         iterate 2 refine q1 _ ?_
         exact nR []
        exact And.intro rfl rfl
       ·
        replace h := aP hc27 h
        refine aW (t := (a0.Op == 3)) rfl hc27 ?_
        refine am ⟨tab [(4, vb false)], ac [], 0⟩ ?_ ?_
        ·
         refine q1 _ ?_
         exact nR []
        obtain ⟨r28, kr28, hr⟩ := cq (o := some false) (g := Sum.inr) h
        subst hr
        have h := kr28
        have hh := aq h
        subst hh
        refine aV ?_
        refine And.intro (fun hn => nomatch hn) ?_
        intro hq
        have hq := hq.symm
        subst hq
        show FQ _ _ _ _
        exact br (.inr rfl) (bg (v := vb false) rfl rfl) (RV.d trivial)
 ·
  intro r' hq
  subst hq
  exact aq h
 rintro ⟨y28, y29⟩ rfl
 show aI _ _ _ _ _ ⟨tab [(2, bk a0), (6, vi y28), (7, vi y29)], ac [], 0⟩
 refine am ⟨tab [(4, vb (((a0.Kids.length : Int) == 0) && ((decide (a0.F ≥ y28)) && (decide (a0.F < y29)))))], ac [], 0⟩ ?_ ?_
 ·
  iterate 2 refine q1 _ ?_
  refine step (v := vi (a0.Kids.length : Int)) (bF (xs := a0.Kids) (e := aN) rfl) ?_
  iterate 2 refine q1 _ ?_
  by_cases hg31 : ((a0.Kids.length : Int) == 0) = true
  ·
   refine qG _ hg31 ?_
   refine q1 _ ?_
   refine qG _ hg31 ?_
   refine q1 _ ?_
   refine qG _ hg31 ?_
   refine q1 _ ?_
   refine qG _ hg31 ?_
   refine q1 _ ?_
   refine step (v := vb (decide (a0.F ≥ y28))) (bw (b := ((a0.Kids.length : Int) == 0)) rfl hg31 rfl) ?_
   refine q1 _ ?_
   by_cases hg32 : decide (a0.F ≥ y28) = true
   ·
    refine qG _ hg32 ?_
    refine q1 _ ?_
    refine qG _ hg32 ?_
    refine q1 _ ?_
    refine qG _ hg32 ?_
    refine q1 _ ?_
    refine qG _ hg32 ?_
    refine q1 _ ?_
    refine step (v := vb (decide (a0.F < y29))) (bw (b := decide (a0.F ≥ y28)) rfl hg32 rfl) ?_
    refine q1 _ ?_
    exact aZ.nil' (nm [] ⟨.eq (by first | (simp [hg31, hg32]; done) | (simp_all; done) | grind), trivial⟩ trivial)
   ·
    iterate 4 refine qX _ hg32 ?_
    refine step (v := vb false) (bp (b := decide (a0.F ≥ y28)) rfl hg32 rfl) ?_
    refine q1 _ ?_
    exact aZ.nil' (nm [] ⟨.eq (by first | (simp [hg31, hg32]; done) | (simp_all; done) | grind), trivial⟩ trivial)
  ·
   iterate 4 refine qX _ hg31 ?_
   refine step (v := vb false) (bp (b := ((a0.Kids.length : Int) == 0)) rfl hg31 rfl) ?_
   refine q1 _ ?_
   iterate 4 refine qX false (by decide) ?_
   refine step (v := vb false) (bp (b := false) rfl (by decide) rfl) ?_
   refine q1 _ ?_
   exact aZ.nil' (nm [] ⟨.eq (by first | (simp [hg31]; done) | (simp_all; done) | grind), trivial⟩ trivial)
 have hh := aq h
 subst hh
 refine aV ?_
 show FQ _ _ _ _
 exact br (.inr rfl) (bg (v := vb (((a0.Kids.length : Int) == 0) && ((decide (a0.F ≥ y28)) && (decide (a0.F < y29))))) rfl rfl) (RV.d trivial)
theorem sD : ∀ (k : Nat) (a0 : ai) (a1 : Int) (r : Bool), jb k a0 a1 = some r → PCall Try.prog 75 [bN a0, .int .i64 a1] (.bool r)
 | 0, _, _, _, h => by cases h
 | k + 1, _, _, _, h => zH (sD k) h
theorem zI {a0 : ai} {a1 : Int} {r : Bool} (h : nw a0 a1 = some r) : PCall Try.prog 75 [bN a0, .int .i64 a1] (.bool r) := sD dH _ _ _ h
theorem oG {a0 : (List f8)} {a1 : Int} {r : Bool} (h : lj a0 a1 = some r) : PCall Try.prog 76 [eL (some 2) fp a0, .int .i64 a1] (.bool r) := by
 refine PCall.introN xB (show 2 ≤ 39 by decide) ?_
 refine bb (s0 := ⟨tab [(0, ct a0), (1, vi a1)], ac [], 0⟩) (nr []) ?_
 refine am ⟨tab [(0, ct a0), (1, vi a1)], ac [], 0⟩ ?_ ?_
 ·
  refine q1 _ ?_
  exact nR []
 refine aG ?_
 refine am ⟨tab [(0, ct a0), (1, vi a1), (7, ct a0), (8, vi (a0.length : Int)), (9, vi 0)], ac [], 0⟩ ?_ ?_
 ·
  refine q1 _ ?_
  refine step (v := vi (a0.length : Int)) (bF (xs := a0) (e := fp) rfl) ?_
  refine q1 _ ?_
  exact nR []
 obtain ⟨q15, hl, h⟩ := ay h
 refine bG ?_
 refine dp (cQ (a0.length : Int)) (fun (i1 : Int) (qq : Unit) => ⟨tab [(0, ct a0), (1, vi a1), (7, ct a0), (8, vi (a0.length : Int)), (9, vi i1)], ac [], 0⟩) 0 (fun (qq : Unit) => ⟨tab [], ac [], 0⟩) bK cR (r := r) hl (by unfold bK; omega) ?_ ?_ ?_ ?_
 ·
  rintro i1 ⟨⟩ xr6 hinv4 hgo3 h
  show aI _ _ _ _ _ ⟨tab [(0, ct a0), (1, vi a1), (7, ct a0), (8, vi (a0.length : Int)), (9, vi i1)], ac [], 0⟩
  have hc5 : decide (i1 < (a0.length : Int)) = true := decide_eq_true hgo3
  refine am ⟨tab [(0, ct a0), (1, vi a1), (7, ct a0), (8, vi (a0.length : Int)), (9, vi i1), (10, vb (decide (i1 < (a0.length : Int))))], ac [], 0⟩ ?_ ?_
  ·
   refine q1 _ ?_
   exact nR []
  refine c8 8 rfl fun hB2 => ?_
  refine aG ?_
  refine aY (t := decide (i1 < (a0.length : Int))) rfl hc5 ?_
  refine bh ?_
  refine aG ?_
  refine bG ?_
  obtain ⟨x7, hx7, h⟩ := ay h
  refine am ⟨tab [(0, ct a0), (1, vi a1), (5, vi i1), (6, .ptr 0 0 0), (7, ct a0), (8, vi (a0.length : Int)), (9, vi i1)], ac [(0, .var [vi x7.F, vh x7.N])], 1⟩ ?_ ?_
  ·
   refine q1 _ ?_
   refine step (v := l8 x7) (cl (xs := a0) (e := fp) hx7 rfl rfl) ?_
   refine q1 _ ?_
   refine step (v := .ptr 0 0 0) (σ' := (al (ac []) 0 (some (.var [vi 0, vh 0])))) (n' := 1) rfl ?_
   refine q1 _ ?_
   refine step (v := V.undef) (σ' := (al (al (ac []) 0 (some (.var [vi 0, vh 0]))) 0 (some (.var [vi x7.F, vh x7.N])))) (n' := 1) rfl ?_
   exact nR [0]
  obtain ⟨y12, hv, h⟩ := ay h
  refine am ⟨tab [(0, ct a0), (1, vi a1), (7, ct a0), (8, vi (a0.length : Int)), (9, vi i1), (37, vb y12)], ac [], 0⟩ ?_ ?_
  ·
   iterate 4 refine q1 _ ?_
   by_cases hg8 : decide (x7.F < 0) = true
   ·
    replace hv := aO hg8 hv
    iterate 4 refine qX (decide (x7.F < 0)) (by rw [hg8]; decide) ?_
    refine step (v := vb true) (bw (b := decide (x7.F < 0)) rfl hg8 rfl) ?_
    refine q1 _ ?_
    iterate 3 refine qX true (by decide) ?_
    refine bZ rfl ?_
    refine bZ rfl ?_
    refine bZ rfl ?_
    refine bZ rfl ?_
    refine bZ rfl ?_
    refine bZ rfl ?_
    refine bZ rfl ?_
    refine bZ rfl ?_
    refine bZ rfl ?_
    refine qX true (by decide) ?_
    refine step (v := vb true) (bw (b := true) rfl rfl rfl) ?_
    have hh := aq hv
    subst hh
    exact nR []
   ·
    replace hv := aP hg8 hv
    refine qG (decide (x7.F < 0)) (Bool.eq_false_iff.2 hg8) ?_
    refine q1 _ ?_
    refine qG (decide (x7.F < 0)) (Bool.eq_false_iff.2 hg8) ?_
    refine q1 _ ?_
    refine qG (decide (x7.F < 0)) (Bool.eq_false_iff.2 hg8) ?_
    refine q1 _ ?_
    refine qG (decide (x7.F < 0)) (Bool.eq_false_iff.2 hg8) ?_
    refine q1 _ ?_
    refine step (v := vb (decide (x7.F ≥ a1))) (bp (b := decide (x7.F < 0)) rfl hg8 rfl) ?_
    refine q1 _ ?_
    by_cases hg9 : decide (x7.F ≥ a1) = true
    ·
     replace hv := aO hg9 hv
     iterate 3 refine qX (decide (x7.F ≥ a1)) (by rw [hg9]; decide) ?_
     refine bZ rfl ?_
     refine bZ rfl ?_
     refine bZ rfl ?_
     refine bZ rfl ?_
     refine bZ rfl ?_
     refine bZ rfl ?_
     refine bZ rfl ?_
     refine bZ rfl ?_
     refine bZ rfl ?_
     refine qX (decide (x7.F ≥ a1)) (by rw [hg9]; decide) ?_
     refine step (v := vb true) (bw (b := decide (x7.F ≥ a1)) rfl hg9 rfl) ?_
     have hh := aq hv
     subst hh
     exact nR []
    ·
     replace hv := aP hg9 hv
     refine qG (decide (x7.F ≥ a1)) (Bool.eq_false_iff.2 hg9) ?_
     refine q1 _ ?_
     refine qG (decide (x7.F ≥ a1)) (Bool.eq_false_iff.2 hg9) ?_
     refine q1 _ ?_
     refine qG (decide (x7.F ≥ a1)) (Bool.eq_false_iff.2 hg9) ?_
     refine q1 _ ?_
     by_cases hg10 : decide (i1 > 0) = true
     ·
      replace hv := aO hg10 hv
      obtain ⟨x11, hx11, hv⟩ := ay hv
      refine qG _ hg10 ?_
      refine q1 _ ?_
      refine qG _ hg10 ?_
      refine q1 _ ?_
      refine qG _ hg10 ?_
      refine q1 _ ?_
      refine qG _ hg10 ?_
      refine step (v := l8 x11) (cl (xs := a0) (e := fp) hx11 rfl rfl) ?_
      refine qG _ hg10 ?_
      refine q1 _ ?_
      refine qG _ hg10 ?_
      refine q1 _ ?_
      refine qG _ hg10 ?_
      refine q1 _ ?_
      refine qG _ hg10 ?_
      refine q1 _ ?_
      refine qG _ hg10 ?_
      refine q1 _ ?_
      refine qG (decide (x7.F ≥ a1)) (Bool.eq_false_iff.2 hg9) ?_
      refine step (v := vb (decide (x11.F ≥ x7.F))) (bw (b := decide (i1 > 0)) rfl hg10 rfl) ?_
      refine step (v := vb (decide (x11.F ≥ x7.F))) (bp (b := decide (x7.F ≥ a1)) rfl hg9 rfl) ?_
      have hh := aq hv
      subst hh
      exact nR []
     ·
      replace hv := aP hg10 hv
      iterate 9 refine qX _ hg10 ?_
      refine qG (decide (x7.F ≥ a1)) (Bool.eq_false_iff.2 hg9) ?_
      refine step (v := vb false) (bp (b := decide (i1 > 0)) rfl hg10 rfl) ?_
      refine step (v := vb false) (bp (b := decide (x7.F ≥ a1)) rfl hg9 rfl) ?_
      have hh := aq hv
      subst hh
      exact nR []
  by_cases hc14 : y12 = true
  ·
   replace h := aO hc14 h
   refine aY (t := y12) rfl hc14 ?_
   refine am ⟨tab [(4, vb false)], ac [], 0⟩ ?_ ?_
   ·
    refine q1 _ ?_
    exact nR []
   obtain ⟨r15, kr15, hr⟩ := cq (o := some false) (g := Br.ret) h
   subst hr
   have h := kr15
   have hh := aq h
   subst hh
   refine aV ?_
   refine And.intro (fun hn => nomatch hn) ?_
   intro hq
   have hq := hq.symm
   subst hq
   show FQ _ _ _ _
   exact br (.inr rfl) (bg (v := vb false) rfl rfl) (RV.d trivial)
  ·
   replace h := aP hc14 h
   refine aW (t := y12) rfl hc14 ?_
   refine bh ?_
   have hh := aq h
   subst hh
   refine bU ⟨tab [(0, ct a0), (1, vi a1), (7, ct a0), (8, vi (a0.length : Int)), (9, vi (i1 + 1))], ac [], 0⟩ ?_ ?_
   ·
    refine step (v := vi (i1 + 1)) (cL (cM hinv4 hgo3 hB2) rfl rfl) ?_
    refine q1 _ ?_
    exact nR []
   exact And.intro rfl rfl
 ·
  rintro i1 ⟨⟩ hinv4 hgo3
  show aI _ _ _ _ _ ⟨tab [(0, ct a0), (1, vi a1), (7, ct a0), (8, vi (a0.length : Int)), (9, vi i1)], ac [], 0⟩
  have hc5 : ¬ (decide (i1 < (a0.length : Int)) = true) := fun hq => hgo3 (of_decide_eq_true hq)
  refine am ⟨tab [(0, ct a0), (1, vi a1), (7, ct a0), (8, vi (a0.length : Int)), (9, vi i1), (10, vb (decide (i1 < (a0.length : Int))))], ac [], 0⟩ ?_ ?_
  ·
   refine q1 _ ?_
   exact nR []
  refine aG ?_
  refine aW (t := decide (i1 < (a0.length : Int))) rfl hc5 ?_
  refine bb (s0 := ⟨tab [], ac [], 0⟩) (nr []) ?_
  refine cI ?_
  exact And.intro rfl rfl
 ·
  intro r' hq
  subst hq
  exact aq h
 rintro ⟨⟩ rfl
 refine am ⟨tab [(4, vb true)], ac [], 0⟩ ?_ ?_
 ·
  refine q1 _ ?_
  exact nR []
 have hh := aq h
 subst hh
 refine aV ?_
 show FQ _ _ _ _
 exact br (.inr rfl) (bg (v := vb true) rfl rfl) (RV.d trivial)
theorem oH {a0 : fC} {r : Int} (h : gY a0 = some r) : PCall Try.prog 48 [l3 a0] (.int .i64 r) := by
 refine PCall.introN xE (show 1 ≤ 95 by decide) ?_
 refine bb (s0 := ⟨tab [(0, .d (l3 a0))], ac [], 0⟩) (nr []) ?_
 refine am ⟨tab [(1, l5 a0)], ac [], 0⟩ ?_ ?_
 ·
  iterate 2 refine q1 _ ?_
  exact nR []
 refine am ⟨tab [(1, l5 a0), (3, vi (a0.Init.length : Int))], ac [], 0⟩ ?_ ?_
 ·
  iterate 2 refine q1 _ ?_
  refine step (v := vi (a0.Init.length : Int)) (bF (xs := a0.Init) (e := (D.int .u16)) rfl) ?_
  refine q1 _ ?_
  exact nR []
 refine aG ?_
 obtain ⟨y7, hv, h⟩ := ay h
 refine am ⟨tab [(1, l5 a0), (3, vi (a0.Init.length : Int)), (33, vb y7)], ac [], 0⟩ ?_ ?_
 ·
  iterate 3 refine q1 _ ?_
  by_cases hg1 : decide ((a0.Init.length : Int) < 1) = true
  ·
   replace hv := aO hg1 hv
   iterate 2 refine qX (decide ((a0.Init.length : Int) < 1)) (by rw [hg1]; decide) ?_
   refine step (v := vb true) (bw (b := decide ((a0.Init.length : Int) < 1)) rfl hg1 rfl) ?_
   refine q1 _ ?_
   iterate 4 refine qX true (by decide) ?_
   refine step (v := vb true) (bw (b := true) rfl rfl rfl) ?_
   refine q1 _ ?_
   iterate 4 refine qX true (by decide) ?_
   refine step (v := vb true) (bw (b := true) rfl rfl rfl) ?_
   refine q1 _ ?_
   iterate 4 refine qX true (by decide) ?_
   refine step (v := vb true) (bw (b := true) rfl rfl rfl) ?_
   have hh := aq hv
   subst hh
   exact nR []
  ·
   replace hv := aP hg1 hv
   refine qG (decide ((a0.Init.length : Int) < 1)) (Bool.eq_false_iff.2 hg1) ?_
   refine q1 _ ?_
   refine qG (decide ((a0.Init.length : Int) < 1)) (Bool.eq_false_iff.2 hg1) ?_
   refine q1 _ ?_
   refine step (v := vb (decide ((a0.Init.length : Int) > 4))) (bp (b := decide ((a0.Init.length : Int) < 1)) rfl hg1 rfl) ?_
   refine q1 _ ?_
   by_cases hg2 : decide ((a0.Init.length : Int) > 4) = true
   ·
    replace hv := aO hg2 hv
    iterate 4 refine qX (decide ((a0.Init.length : Int) > 4)) (by rw [hg2]; decide) ?_
    refine step (v := vb true) (bw (b := decide ((a0.Init.length : Int) > 4)) rfl hg2 rfl) ?_
    refine q1 _ ?_
    iterate 4 refine qX true (by decide) ?_
    refine step (v := vb true) (bw (b := true) rfl rfl rfl) ?_
    refine q1 _ ?_
    iterate 4 refine qX true (by decide) ?_
    refine step (v := vb true) (bw (b := true) rfl rfl rfl) ?_
    have hh := aq hv
    subst hh
    exact nR []
   ·
    replace hv := aP hg2 hv
    obtain ⟨r3, hr3, hv⟩ := ay hv
    refine qG (decide ((a0.Init.length : Int) > 4)) (Bool.eq_false_iff.2 hg2) ?_
    refine q1 _ ?_
    refine qG (decide ((a0.Init.length : Int) > 4)) (Bool.eq_false_iff.2 hg2) ?_
    refine q1 _ ?_
    refine qG (decide ((a0.Init.length : Int) > 4)) (Bool.eq_false_iff.2 hg2) ?_
    refine bC (r := .int .i64 r3) (aF aQ.nil') (zy hr3) ?_
    refine qG (decide ((a0.Init.length : Int) > 4)) (Bool.eq_false_iff.2 hg2) ?_
    refine q1 _ ?_
    refine step (v := vb (decide (r3 > 300))) (bp (b := decide ((a0.Init.length : Int) > 4)) rfl hg2 rfl) ?_
    refine q1 _ ?_
    by_cases hg4 : decide (r3 > 300) = true
    ·
     replace hv := aO hg4 hv
     iterate 4 refine qX (decide (r3 > 300)) (by rw [hg4]; decide) ?_
     refine step (v := vb true) (bw (b := decide (r3 > 300)) rfl hg4 rfl) ?_
     refine q1 _ ?_
     iterate 4 refine qX true (by decide) ?_
     refine step (v := vb true) (bw (b := true) rfl rfl rfl) ?_
     have hh := aq hv
     subst hh
     exact nR []
    ·
     replace hv := aP hg4 hv
     obtain ⟨r5, hr5, hv⟩ := ay hv
     refine qG (decide (r3 > 300)) (Bool.eq_false_iff.2 hg4) ?_
     refine q1 _ ?_
     refine qG (decide (r3 > 300)) (Bool.eq_false_iff.2 hg4) ?_
     refine q1 _ ?_
     refine qG (decide (r3 > 300)) (Bool.eq_false_iff.2 hg4) ?_
     refine bC (r := .int .i64 r5) (aF aQ.nil') (zB hr5) ?_
     refine qG (decide (r3 > 300)) (Bool.eq_false_iff.2 hg4) ?_
     refine q1 _ ?_
     refine step (v := vb (decide (r5 > 20))) (bp (b := decide (r3 > 300)) rfl hg4 rfl) ?_
     refine q1 _ ?_
     by_cases hg6 : decide (r5 > 20) = true
     ·
      replace hv := aO hg6 hv
      iterate 4 refine qX (decide (r5 > 20)) (by rw [hg6]; decide) ?_
      refine step (v := vb true) (bw (b := decide (r5 > 20)) rfl hg6 rfl) ?_
      have hh := aq hv
      subst hh
      exact nR []
     ·
      replace hv := aP hg6 hv
      refine qG (decide (r5 > 20)) (Bool.eq_false_iff.2 hg6) ?_
      refine q1 _ ?_
      refine qG (decide (r5 > 20)) (Bool.eq_false_iff.2 hg6) ?_
      refine q1 _ ?_
      refine qG (decide (r5 > 20)) (Bool.eq_false_iff.2 hg6) ?_
      refine step (v := vi (a0.Rules.length : Int)) (bF (xs := a0.Rules) (e := jt) rfl) ?_
      refine qG (decide (r5 > 20)) (Bool.eq_false_iff.2 hg6) ?_
      refine q1 _ ?_
      refine step (v := vb (decide ((a0.Rules.length : Int) > 24))) (bp (b := decide (r5 > 20)) rfl hg6 rfl) ?_
      have hh := aq hv
      subst hh
      exact nR []
 by_cases hc9 : y7 = true
 ·
  replace h := aO hc9 h
  refine aY (t := y7) rfl hc9 ?_
  refine am ⟨tab [(2, vi 2)], ac [], 0⟩ ?_ ?_
  ·
   refine q1 _ ?_
   exact nR []
  have hh := aq h
  subst hh
  refine aV ?_
  show FQ _ _ _ _
  exact br (.inr rfl) (bg (v := vi 2) rfl rfl) (RV.d trivial)
 ·
  replace h := aP hc9 h
  refine aW (t := y7) rfl hc9 ?_
  refine bh ?_
  refine aG ?_
  obtain ⟨r10, hr10, h⟩ := ay h
  refine am ⟨tab [(1, l5 a0), (3, vi (a0.Init.length : Int)), (38, vb (!r10))], ac [], 0⟩ ?_ ?_
  ·
   iterate 3 refine q1 _ ?_
   refine bC (r := .bool r10) (aF (aF aQ.nil')) (zI hr10) ?_
   refine q1 _ ?_
   exact nR []
  by_cases hc11 : (!r10) = true
  ·
   replace h := aO hc11 h
   refine aY (t := (!r10)) rfl hc11 ?_
   refine am ⟨tab [(2, vi 11)], ac [], 0⟩ ?_ ?_
   ·
    refine q1 _ ?_
    exact nR []
   have hh := aq h
   subst hh
   refine aV ?_
   show FQ _ _ _ _
   exact br (.inr rfl) (bg (v := vi 11) rfl rfl) (RV.d trivial)
  ·
   replace h := aP hc11 h
   refine aW (t := (!r10)) rfl hc11 ?_
   refine bh ?_
   refine aG ?_
   refine am ⟨tab [(3, vi (a0.Init.length : Int)), (40, gm a0.Rules), (41, vi (a0.Rules.length : Int)), (42, vi 0)], ac [], 0⟩ ?_ ?_
   ·
    iterate 2 refine q1 _ ?_
    refine step (v := vi (a0.Rules.length : Int)) (bF (xs := a0.Rules) (e := jt) rfl) ?_
    refine q1 _ ?_
    exact nR []
   obtain ⟨q35, hl, h⟩ := ay h
   refine bG ?_
   refine dp (cQ (a0.Rules.length : Int)) (fun (i12 : Int) (qq : Unit) => ⟨tab [(3, vi (a0.Init.length : Int)), (40, gm a0.Rules), (41, vi (a0.Rules.length : Int)), (42, vi i12)], ac [], 0⟩) 0 (fun (qq : Unit) => ⟨tab [], ac [], 0⟩) bK cR (r := r) hl (by unfold bK; omega) ?_ ?_ ?_ ?_
   ·
    rintro i12 ⟨⟩ xr17 hinv15 hgo14 h
    show aI _ _ _ _ _ ⟨tab [(3, vi (a0.Init.length : Int)), (40, gm a0.Rules), (41, vi (a0.Rules.length : Int)), (42, vi i12)], ac [], 0⟩
    have hc16 : decide (i12 < (a0.Rules.length : Int)) = true := decide_eq_true hgo14
    refine am ⟨tab [(3, vi (a0.Init.length : Int)), (40, gm a0.Rules), (41, vi (a0.Rules.length : Int)), (42, vi i12), (43, vb (decide (i12 < (a0.Rules.length : Int))))], ac [], 0⟩ ?_ ?_
    ·
     refine q1 _ ?_
     exact nR []
    refine c8 41 rfl fun hB13 => ?_
    refine aG ?_
    refine aY (t := decide (i12 < (a0.Rules.length : Int))) rfl hc16 ?_
    refine bh ?_
    refine aG ?_
    refine bG ?_
    obtain ⟨x18, hx18, h⟩ := ay h
    refine am ⟨tab [(3, vi (a0.Init.length : Int)), (5, .ptr 0 0 0), (40, gm a0.Rules), (41, vi (a0.Rules.length : Int)), (42, vi i12)], ac [(0, .var [ct x18.When, ct x18.Guard, ct x18.Then])], 1⟩ ?_ ?_
    ·
     refine step (v := .d (.cptr (some 3) (jt x18) 0)) (cl (xs := a0.Rules) (e := jt) hx18 rfl rfl) ?_
     refine q1 _ ?_
     refine step (v := .ptr 0 0 0) (σ' := (al (ac []) 0 (some (.var [ct [], ct [], ct []])))) (n' := 1) rfl ?_
     refine step (v := V.undef) (σ' := (al (al (ac []) 0 (some (.var [ct [], ct [], ct []]))) 0 (some (.var [ct x18.When, ct x18.Guard, ct x18.Then])))) (n' := 1) rfl ?_
     exact nR [0]
    obtain ⟨y23, hv, h⟩ := ay h
    refine am ⟨tab [(3, vi (a0.Init.length : Int)), (5, .ptr 0 0 0), (6, vb y23), (40, gm a0.Rules), (41, vi (a0.Rules.length : Int)), (42, vi i12)], ac [(0, .var [ct x18.When, ct x18.Guard, ct x18.Then])], 1⟩ ?_ ?_
    ·
     iterate 2 refine q1 _ ?_
     refine step (v := vi (x18.When.length : Int)) (bF (xs := x18.When) (e := fp) rfl) ?_
     iterate 2 refine q1 _ ?_
     by_cases hg19 : decide ((x18.When.length : Int) ≥ 2) = true
     ·
      replace hv := aO hg19 hv
      obtain ⟨x20, hx20, hv⟩ := ay hv
      refine qG _ hg19 ?_
      refine q1 _ ?_
      refine qG _ hg19 ?_
      refine q1 _ ?_
      refine qG _ hg19 ?_
      refine step (v := l8 x20) (cl (xs := x18.When) (e := fp) hx20 rfl rfl) ?_
      refine qG _ hg19 ?_
      refine q1 _ ?_
      refine qG _ hg19 ?_
      refine q1 _ ?_
      refine qG _ hg19 ?_
      refine q1 _ ?_
      refine step (v := vb (x20.F == 0)) (bw (b := decide ((x18.When.length : Int) ≥ 2)) rfl hg19 rfl) ?_
      refine q1 _ ?_
      by_cases hg21 : (x20.F == 0) = true
      ·
       replace hv := aO hg21 hv
       obtain ⟨x22, hx22, hv⟩ := ay hv
       refine qG _ hg21 ?_
       refine q1 _ ?_
       refine qG _ hg21 ?_
       refine q1 _ ?_
       refine qG _ hg21 ?_
       refine step (v := l8 x22) (cl (xs := x18.When) (e := fp) hx22 rfl rfl) ?_
       refine qG _ hg21 ?_
       refine q1 _ ?_
       refine qG _ hg21 ?_
       refine q1 _ ?_
       refine qG _ hg21 ?_
       refine q1 _ ?_
       refine step (v := vb (x22.F == 1)) (bw (b := (x20.F == 0)) rfl hg21 rfl) ?_
       refine q1 _ ?_
       have hh := aq hv
       subst hh
       exact nR [0]
      ·
       replace hv := aP hg21 hv
       iterate 6 refine qX _ hg21 ?_
       refine step (v := vb false) (bp (b := (x20.F == 0)) rfl hg21 rfl) ?_
       refine q1 _ ?_
       have hh := aq hv
       subst hh
       exact nR [0]
     ·
      replace hv := aP hg19 hv
      iterate 6 refine qX _ hg19 ?_
      refine step (v := vb false) (bp (b := decide ((x18.When.length : Int) ≥ 2)) rfl hg19 rfl) ?_
      refine q1 _ ?_
      iterate 6 refine qX false (by decide) ?_
      refine step (v := vb false) (bp (b := false) rfl (by decide) rfl) ?_
      refine q1 _ ?_
      have hh := aq hv
      subst hh
      exact nR [0]
    obtain ⟨y32, hv, h⟩ := ay h
    refine am ⟨tab [(3, vi (a0.Init.length : Int)), (40, gm a0.Rules), (41, vi (a0.Rules.length : Int)), (42, vi i12), (93, vb y32)], ac [], 0⟩ ?_ ?_
    ·
     iterate 3 refine q1 _ ?_
     by_cases hg25 : (!y23) = true
     ·
      replace hv := aO hg25 hv
      iterate 4 refine qX (!y23) (by rw [hg25]; decide) ?_
      refine step (v := vb true) (bw (b := (!y23)) rfl hg25 rfl) ?_
      refine q1 _ ?_
      iterate 5 refine qX true (by decide) ?_
      refine step (v := vb true) (bw (b := true) rfl rfl rfl) ?_
      refine q1 _ ?_
      iterate 5 refine qX true (by decide) ?_
      refine step (v := vb true) (bw (b := true) rfl rfl rfl) ?_
      refine q1 _ ?_
      iterate 4 refine qX true (by decide) ?_
      refine step (v := vb true) (bw (b := true) rfl rfl rfl) ?_
      have hh := aq hv
      subst hh
      exact nR []
     ·
      replace hv := aP hg25 hv
      obtain ⟨r26, hr26, hv⟩ := ay hv
      refine qG (!y23) (Bool.eq_false_iff.2 hg25) ?_
      refine q1 _ ?_
      refine qG (!y23) (Bool.eq_false_iff.2 hg25) ?_
      refine q1 _ ?_
      refine qG (!y23) (Bool.eq_false_iff.2 hg25) ?_
      refine bC (r := .bool r26) (aF (aF aQ.nil')) (oG hr26) ?_
      refine qG (!y23) (Bool.eq_false_iff.2 hg25) ?_
      refine q1 _ ?_
      refine step (v := vb (!r26)) (bp (b := (!y23)) rfl hg25 rfl) ?_
      refine q1 _ ?_
      by_cases hg27 : (!r26) = true
      ·
       replace hv := aO hg27 hv
       iterate 5 refine qX (!r26) (by rw [hg27]; decide) ?_
       refine step (v := vb true) (bw (b := (!r26)) rfl hg27 rfl) ?_
       refine q1 _ ?_
       iterate 5 refine qX true (by decide) ?_
       refine step (v := vb true) (bw (b := true) rfl rfl rfl) ?_
       refine q1 _ ?_
       iterate 4 refine qX true (by decide) ?_
       refine step (v := vb true) (bw (b := true) rfl rfl rfl) ?_
       have hh := aq hv
       subst hh
       exact nR []
      ·
       replace hv := aP hg27 hv
       obtain ⟨r28, hr28, hv⟩ := ay hv
       refine qG (!r26) (Bool.eq_false_iff.2 hg27) ?_
       refine q1 _ ?_
       refine qG (!r26) (Bool.eq_false_iff.2 hg27) ?_
       refine q1 _ ?_
       refine qG (!r26) (Bool.eq_false_iff.2 hg27) ?_
       refine q1 _ ?_
       refine qG (!r26) (Bool.eq_false_iff.2 hg27) ?_
       refine bC (r := .bool r28) (aF (aF aQ.nil')) (oG hr28) ?_
       refine qG (!r26) (Bool.eq_false_iff.2 hg27) ?_
       refine q1 _ ?_
       refine step (v := vb (!r28)) (bp (b := (!r26)) rfl hg27 rfl) ?_
       refine q1 _ ?_
       by_cases hg29 : (!r28) = true
       ·
        replace hv := aO hg29 hv
        iterate 5 refine qX (!r28) (by rw [hg29]; decide) ?_
        refine step (v := vb true) (bw (b := (!r28)) rfl hg29 rfl) ?_
        refine q1 _ ?_
        iterate 4 refine qX true (by decide) ?_
        refine step (v := vb true) (bw (b := true) rfl rfl rfl) ?_
        have hh := aq hv
        subst hh
        exact nR []
       ·
        replace hv := aP hg29 hv
        obtain ⟨r30, hr30, hv⟩ := ay hv
        refine qG (!r28) (Bool.eq_false_iff.2 hg29) ?_
        refine q1 _ ?_
        refine qG (!r28) (Bool.eq_false_iff.2 hg29) ?_
        refine q1 _ ?_
        refine qG (!r28) (Bool.eq_false_iff.2 hg29) ?_
        refine q1 _ ?_
        refine qG (!r28) (Bool.eq_false_iff.2 hg29) ?_
        refine bC (r := .bool r30) (aF (aF aQ.nil')) (oG hr30) ?_
        refine qG (!r28) (Bool.eq_false_iff.2 hg29) ?_
        refine q1 _ ?_
        refine step (v := vb (!r30)) (bp (b := (!r28)) rfl hg29 rfl) ?_
        refine q1 _ ?_
        by_cases hg31 : (!r30) = true
        ·
         replace hv := aO hg31 hv
         iterate 4 refine qX (!r30) (by rw [hg31]; decide) ?_
         refine step (v := vb true) (bw (b := (!r30)) rfl hg31 rfl) ?_
         have hh := aq hv
         subst hh
         exact nR []
        ·
         replace hv := aP hg31 hv
         refine qG (!r30) (Bool.eq_false_iff.2 hg31) ?_
         refine q1 _ ?_
         refine qG (!r30) (Bool.eq_false_iff.2 hg31) ?_
         refine q1 _ ?_
         refine qG (!r30) (Bool.eq_false_iff.2 hg31) ?_
         refine step (v := vi (x18.Then.length : Int)) (bF (xs := x18.Then) (e := fp) rfl) ?_
         refine qG (!r30) (Bool.eq_false_iff.2 hg31) ?_
         refine q1 _ ?_
         refine step (v := vb ((x18.Then.length : Int) == 0)) (bp (b := (!r30)) rfl hg31 rfl) ?_
         have hh := aq hv
         subst hh
         exact nR []
    by_cases hc34 : y32 = true
    ·
     replace h := aO hc34 h
     refine aY (t := y32) rfl hc34 ?_
     refine am ⟨tab [(2, vi 11)], ac [], 0⟩ ?_ ?_
     ·
      refine q1 _ ?_
      exact nR []
     obtain ⟨r35, kr35, hr⟩ := cq (o := some 11) (g := Br.ret) h
     subst hr
     have h := kr35
     have hh := aq h
     subst hh
     refine aV ?_
     refine And.intro (fun hn => nomatch hn) ?_
     intro hq
     have hq := hq.symm
     subst hq
     show FQ _ _ _ _
     exact br (.inr rfl) (bg (v := vi 11) rfl rfl) (RV.d trivial)
    ·
     replace h := aP hc34 h
     refine aW (t := y32) rfl hc34 ?_
     refine bh ?_
     have hh := aq h
     subst hh
     refine bU ⟨tab [(3, vi (a0.Init.length : Int)), (40, gm a0.Rules), (41, vi (a0.Rules.length : Int)), (42, vi (i12 + 1))], ac [], 0⟩ ?_ ?_
     ·
      refine step (v := vi (i12 + 1)) (cL (cM hinv15 hgo14 hB13) rfl rfl) ?_
      refine q1 _ ?_
      exact nR []
     exact And.intro rfl rfl
   ·
    rintro i12 ⟨⟩ hinv15 hgo14
    show aI _ _ _ _ _ ⟨tab [(3, vi (a0.Init.length : Int)), (40, gm a0.Rules), (41, vi (a0.Rules.length : Int)), (42, vi i12)], ac [], 0⟩
    have hc16 : ¬ (decide (i12 < (a0.Rules.length : Int)) = true) := fun hq => hgo14 (of_decide_eq_true hq)
    refine am ⟨tab [(3, vi (a0.Init.length : Int)), (40, gm a0.Rules), (41, vi (a0.Rules.length : Int)), (42, vi i12), (43, vb (decide (i12 < (a0.Rules.length : Int))))], ac [], 0⟩ ?_ ?_
    ·
     refine q1 _ ?_
     exact nR []
    refine aG ?_
    refine aW (t := decide (i12 < (a0.Rules.length : Int))) rfl hc16 ?_
    refine bb (s0 := ⟨tab [], ac [], 0⟩) (nr []) ?_
    refine cI ?_
    exact And.intro rfl rfl
   ·
    intro r' hq
    subst hq
    exact aq h
   rintro ⟨⟩ rfl
   refine am ⟨tab [(2, vi 0)], ac [], 0⟩ ?_ ?_
   ·
    refine q1 _ ?_
    exact nR []
   have hh := aq h
   subst hh
   refine aV ?_
   show FQ _ _ _ _
   exact br (.inr rfl) (bg (v := vi 0) rfl rfl) (RV.d trivial)
theorem jv {a0 : Bool} {a1 : (A8 Int)} {r : (List (A8 Int))} (h : gZ a0 a1 = some r) : PCall Try.prog 77 [.bool a0, eA8 (D.int .u16) a1] (eL (some 8) (eA8 (D.int .u16)) r) := by
 refine PCall.introN xF (show 2 ≤ 9 by decide) ?_
 refine bb (s0 := ⟨tab [(0, vb a0), (1, .d (eA8 (D.int .u16) a1))], ac [], 0⟩) (nr []) ?_
 refine am ⟨tab [(0, vb a0), (3, .d (.cptr (some 8) (eA8 (D.int .u16) a1) 0))], ac [], 0⟩ ?_ ?_
 ·
  iterate 2 refine q1 _ ?_
  exact nR []
 refine aG ?_
 refine am ⟨tab [(3, .d (.cptr (some 8) (eA8 (D.int .u16) a1) 0)), (6, vb (!a0))], ac [], 0⟩ ?_ ?_
 ·
  iterate 2 refine q1 _ ?_
  exact nR []
 by_cases hc1 : (!a0) = true
 ·
  replace h := aO hc1 h
  refine aY (t := (!a0)) rfl hc1 ?_
  refine am ⟨tab [(4, .d (eL (some 8) (eA8 (D.int .u16)) ([] : List (A8 Int))))], ac [], 0⟩ ?_ ?_
  ·
   refine q1 _ ?_
   exact nR []
  have hh := aq h
  subst hh
  refine aV ?_
  show FQ _ _ _ _
  exact br (.inr rfl) (bg (v := .d (eL (some 8) (eA8 (D.int .u16)) ([] : List (A8 Int)))) rfl rfl) (RV.d trivial)
 ·
  replace h := aP hc1 h
  refine aW (t := (!a0)) rfl hc1 ?_
  refine bh ?_
  refine am ⟨tab [(4, .d (eL (some 8) (eA8 (D.int .u16)) ([a1] : List (A8 Int))))], ac [], 0⟩ ?_ ?_
  ·
   iterate 3 refine q1 _ ?_
   exact nR []
  have hh := aq h
  subst hh
  refine aV ?_
  show FQ _ _ _ _
  exact br (.inr rfl) (bg (v := .d (eL (some 8) (eA8 (D.int .u16)) ([a1] : List (A8 Int)))) rfl rfl) (RV.d trivial)
theorem zJ {a0 : (List Int)} {a1 : ai} {r : Bool} (h : lk a0 a1 = some r) : PCall Try.prog 54 [eL none (D.int .u16) a0, bN a1] (.bool r) := by
 refine PCall.introN xH (show 2 ≤ 25 by decide) ?_
 refine bb (s0 := ⟨tab [(0, ar a0), (1, vs1 a1)], ac [], 0⟩) (nr []) ?_
 refine am ⟨tab [(0, ar a0), (3, bk a1)], ac [], 0⟩ ?_ ?_
 ·
  iterate 2 refine q1 _ ?_
  exact nR []
 obtain ⟨y4, hv, h⟩ := ay h
 refine am ⟨tab [(4, vb y4)], ac [], 0⟩ ?_ ?_
 ·
  iterate 4 refine q1 _ ?_
  by_cases hg1 : decide (a1.F ≥ 0) = true
  ·
   replace hv := aO hg1 hv
   refine qG _ hg1 ?_
   refine q1 _ ?_
   refine qG _ hg1 ?_
   refine q1 _ ?_
   refine qG _ hg1 ?_
   refine q1 _ ?_
   refine qG _ hg1 ?_
   refine step (v := vi (a0.length : Int)) (bF (xs := a0) (e := (D.int .u16)) rfl) ?_
   refine qG _ hg1 ?_
   refine q1 _ ?_
   refine step (v := vb (decide (a1.F < (a0.length : Int)))) (bw (b := decide (a1.F ≥ 0)) rfl hg1 rfl) ?_
   refine q1 _ ?_
   by_cases hg2 : decide (a1.F < (a0.length : Int)) = true
   ·
    replace hv := aO hg2 hv
    obtain ⟨x3, hx3, hv⟩ := ay hv
    refine qG _ hg2 ?_
    refine q1 _ ?_
    refine qG _ hg2 ?_
    refine q1 _ ?_
    refine qG _ hg2 ?_
    refine q1 _ ?_
    refine qG _ hg2 ?_
    refine step (v := .d (.cptr none (.int .u16 x3) 0)) (cl (xs := a0) (e := (D.int .u16)) hx3 rfl rfl) ?_
    refine qG _ hg2 ?_
    refine q1 _ ?_
    refine qG _ hg2 ?_
    refine q1 _ ?_
    refine qG _ hg2 ?_
    refine q1 _ ?_
    refine qG _ hg2 ?_
    refine q1 _ ?_
    refine step (v := vb (x3 == a1.N)) (bw (b := decide (a1.F < (a0.length : Int))) rfl hg2 rfl) ?_
    refine q1 _ ?_
    have hh := aq hv
    subst hh
    exact nR []
   ·
    replace hv := aP hg2 hv
    iterate 8 refine qX _ hg2 ?_
    refine step (v := vb false) (bp (b := decide (a1.F < (a0.length : Int))) rfl hg2 rfl) ?_
    refine q1 _ ?_
    have hh := aq hv
    subst hh
    exact nR []
  ·
   replace hv := aP hg1 hv
   iterate 5 refine qX _ hg1 ?_
   refine step (v := vb false) (bp (b := decide (a1.F ≥ 0)) rfl hg1 rfl) ?_
   refine q1 _ ?_
   iterate 8 refine qX false (by decide) ?_
   refine step (v := vb false) (bp (b := false) rfl (by decide) rfl) ?_
   refine q1 _ ?_
   have hh := aq hv
   subst hh
   exact nR []
 have hh := aq h
 subst hh
 refine aV ?_
 show FQ _ _ _ _
 exact br (.inr rfl) (bg (v := vb y4) rfl rfl) (RV.d trivial)
theorem zK {a0 : Int} {r : Bool} (h : ny a0 = some r) : PCall Try.prog 100 [.int .i64 a0] (.bool r) := by
 refine PCall.introN xJ (show 1 ≤ 9 by decide) ?_
 refine bb (s0 := ⟨tab [(0, vi a0)], ac [], 0⟩) (nr []) ?_
 refine am ⟨tab [(0, vi a0)], ac [], 0⟩ ?_ ?_
 ·
  refine q1 _ ?_
  exact nR []
 refine am ⟨tab [(2, vb ((decide (a0 ≥ 0)) && (decide (a0 < 8))))], ac [], 0⟩ ?_ ?_
 ·
  iterate 3 refine q1 _ ?_
  by_cases hg1 : decide (a0 ≥ 0) = true
  ·
   refine qG _ hg1 ?_
   refine q1 _ ?_
   refine qG _ hg1 ?_
   refine q1 _ ?_
   refine step (v := vb (decide (a0 < 8))) (bw (b := decide (a0 ≥ 0)) rfl hg1 rfl) ?_
   refine q1 _ ?_
   exact aZ.nil' (nm [] ⟨.eq (by first | (simp [hg1]; done) | (simp_all; done) | grind), trivial⟩ trivial)
  ·
   iterate 2 refine qX _ hg1 ?_
   refine step (v := vb false) (bp (b := decide (a0 ≥ 0)) rfl hg1 rfl) ?_
   refine q1 _ ?_
   exact aZ.nil' (nm [] ⟨.eq (by first | (simp [hg1]; done) | (simp_all; done) | grind), trivial⟩ trivial)
 have hh := aq h
 subst hh
 refine aV ?_
 show FQ _ _ _ _
 exact br (.inr rfl) (bg (v := vb ((decide (a0 ≥ 0)) && (decide (a0 < 8)))) rfl rfl) (RV.d trivial)
theorem zL {a0 : (A8 Int)} {a1 : Int} {a2 : Int} {r : (A8 Int)} (h : lm a0 a1 a2 = some r) : PCall Try.prog 78 [eA8 (D.int .u16) a0, .int .i64 a1, .int .u16 a2] (eA8 (D.int .u16) r) := by
 refine PCall.introN xL (show 3 ≤ 13 by decide) ?_
 refine bb (s0 := ⟨tab [(0, .d (eA8 (D.int .u16) a0)), (1, vi a1), (2, vh a2)], ac [], 0⟩) (nr []) ?_
 refine am ⟨tab [(1, vi a1), (2, vh a2), (3, .ptr 0 0 0), (6, .ptr 1 0 0)], ac [(0, .var [vh a0.a0, vh a0.a1, vh a0.a2, vh a0.a3, vh a0.a4, vh a0.a5, vh a0.a6, vh a0.a7]), (1, ce)], 2⟩ ?_ ?_
 ·
  refine step (v := .ptr 0 0 0) (σ' := (al (ac []) 0 (some (.var [vh a0.a0, vh a0.a1, vh a0.a2, vh a0.a3, vh a0.a4, vh a0.a5, vh a0.a6, vh a0.a7])))) (n' := 1) rfl ?_
  refine step (v := .ptr 1 0 0) (σ' := (al (al (ac []) 0 (some (.var [vh a0.a0, vh a0.a1, vh a0.a2, vh a0.a3, vh a0.a4, vh a0.a5, vh a0.a6, vh a0.a7]))) 1 (some (ce)))) (n' := 2) rfl ?_
  exact nR [0, 1]
 obtain ⟨y5, hv, h⟩ := ay h
 refine gV ⟨tab [(3, .ptr 0 0 0), (6, .ptr 1 0 0)], ac [(0, .var [vh y5.a0, vh y5.a1, vh y5.a2, vh y5.a3, vh y5.a4, vh y5.a5, vh y5.a6, vh y5.a7]), (1, ce)], 2⟩ ?_ ?_
 ·
  replace h := hv
  obtain ⟨r1, hr1, h⟩ := ay h
  refine am ⟨tab [(1, vi a1), (2, vh a2), (3, .ptr 0 0 0), (6, .ptr 1 0 0), (8, vb r1)], ac [(0, .var [vh a0.a0, vh a0.a1, vh a0.a2, vh a0.a3, vh a0.a4, vh a0.a5, vh a0.a6, vh a0.a7]), (1, ce)], 2⟩ ?_ ?_
  ·
   refine q1 _ ?_
   refine bC (r := .bool r1) (aF aQ.nil') (zK hr1) ?_
   exact nR [0, 1]
  by_cases hc2 : r1 = true
  ·
   replace h := aO hc2 h
   refine aY (t := r1) rfl hc2 ?_
   obtain ⟨x3, hx3, h⟩ := ay h
   obtain ⟨x4, hx4, h⟩ := ay h
   have hh := aq h
   subst hh
   refine bU ⟨tab [(3, .ptr 0 0 0), (6, .ptr 1 0 0)], ac [(0, .var [vh x4.a0, vh x4.a1, vh x4.a2, vh x4.a3, vh x4.a4, vh x4.a5, vh x4.a6, vh x4.a7]), (1, ce)], 2⟩ ?_ ?_
   ·
    iterate 2 refine q1 _ ?_
    refine step (v := .ptr 0 0 (0 + a1.toNat * 1)) (vk (xs := a0.l) hx3 rfl rfl rfl) ?_
    refine step (v := V.undef) (σ' := (al (ac [(0, .var [vh a0.a0, vh a0.a1, vh a0.a2, vh a0.a3, vh a0.a4, vh a0.a5, vh a0.a6, vh a0.a7]), (1, ce)]) 0 (some (.var [vh x4.a0, vh x4.a1, vh x4.a2, vh x4.a3, vh x4.a4, vh x4.a5, vh x4.a6, vh x4.a7])))) (n' := 2) (vl (e := (D.int .u16)) (xs := a0.l) (xs' := x4.l) (pre := []) (post := []) (A8.put_l hx4) rfl rfl rfl rfl rfl rfl) ?_
    exact nR [0, 1]
   exact And.intro rfl rfl
  ·
   replace h := aP hc2 h
   refine aW (t := r1) rfl hc2 ?_
   have hh := aq h
   subst hh
   refine bb (s0 := ⟨tab [(3, .ptr 0 0 0), (6, .ptr 1 0 0)], ac [(0, .var [vh a0.a0, vh a0.a1, vh a0.a2, vh a0.a3, vh a0.a4, vh a0.a5, vh a0.a6, vh a0.a7]), (1, ce)], 2⟩) (nr [0, 1]) ?_
   refine bh ?_
   exact And.intro rfl rfl
 refine am ⟨tab [(6, .ptr 0 0 0)], ac [(0, .var [vh y5.a0, vh y5.a1, vh y5.a2, vh y5.a3, vh y5.a4, vh y5.a5, vh y5.a6, vh y5.a7])], 1⟩ ?_ ?_
 ·
  refine step (v := .d (eA8 (D.int .u16) y5)) (cb (ds := [.int .u16 y5.a0, .int .u16 y5.a1, .int .u16 y5.a2, .int .u16 y5.a3, .int .u16 y5.a4, .int .u16 y5.a5, .int .u16 y5.a6, .int .u16 y5.a7]) rfl rfl (show 8 ≤ 8 by decide) rfl) ?_
  refine step (v := V.undef) (σ' := (al (ac [(0, .var [vh y5.a0, vh y5.a1, vh y5.a2, vh y5.a3, vh y5.a4, vh y5.a5, vh y5.a6, vh y5.a7]), (1, ce)]) 1 (some (.var [vh y5.a0, vh y5.a1, vh y5.a2, vh y5.a3, vh y5.a4, vh y5.a5, vh y5.a6, vh y5.a7])))) (n' := 2) rfl ?_
  exact nR [1]
 have hh := aq h
 subst hh
 refine aV ?_
 show FQ _ _ _ _
 exact br (.inr rfl) (ff (ds := [.int .u16 y5.a0, .int .u16 y5.a1, .int .u16 y5.a2, .int .u16 y5.a3, .int .u16 y5.a4, .int .u16 y5.a5, .int .u16 y5.a6, .int .u16 y5.a7]) rfl rfl (show 8 ≤ 8 by decide) rfl rfl) (RV.d trivial)
theorem ma {a0 : List (A8 Int)} {r : List (A8 Int)} (h : f9 a0 = some r) : bY Try.prog 93 [.d (.vec (some 8) (List.map (eA8 (D.int .u16)) a0))] (ac []) 0 (.loc 0 0 r.length) (ac [(0, .lst true (some 8) (List.map (eA8 (D.int .u16)) r))]) 1 := by
 cases a0 with
 | nil =>
  refine bY.empty ?_ ?_
  ·
   have h : some ([] : List (A8 Int)) = some r := by simpa [f9, cx] using h
   refine bY.introN (bl := []) (bl' := [(0, .lst true (some 8) (List.map (eA8 (D.int .u16)) r))]) oF (show 1 ≤ 8 by decide) rfl ?_
   refine bb (s0 := ⟨tab [(0, .d (.nils))], ac [], 0⟩) (nr []) ?_
   refine am ⟨tab [(0, .d (.nils))], ac [], 0⟩ ?_ ?_
   ·
    refine q1 _ ?_
    exact nR []
   refine aG ?_
   refine am ⟨tab [(0, .d (.nils)), (4, vb true)], ac [], 0⟩ ?_ ?_
   ·
    iterate 2 refine q1 _ ?_
    exact nR []
   refine aY (t := true) rfl rfl ?_
   refine am ⟨tab [(2, .d (.nils))], ac [], 0⟩ ?_ ?_
   ·
    refine q1 _ ?_
    exact nR []
   have hh := aq h
   subst hh
   refine bb (s0 := ⟨tab [(2, .loc 0 0 (([] : List (A8 Int)).length))], ac [(0, .lst true (some 8) (List.map (eA8 (D.int .u16)) ([] : List (A8 Int))))], 1⟩) (bO.trans (s2 := ⟨tab [(2, .loc 0 0 (([] : List (A8 Int)).length))], ac [(0, .lst true (some 8) (List.map (eA8 (D.int .u16)) ([] : List (A8 Int))))], 1⟩) (jX 2 true (some 8) rfl) (nr [0])) ?_
   refine aV ?_
   exact ⟨.inr rfl, _, rfl, rfl, dh.sub ⟨rfl, trivial⟩, rfl⟩
  ·
   refine bY.introN (bl := []) (bl' := [(0, .lst true (some 8) (List.map (eA8 (D.int .u16)) r))]) oF (show 1 ≤ 8 by decide) rfl ?_
   refine bb (s0 := ⟨tab [(0, .mapr 0)], ac [], 0⟩) (nm [] ⟨.mp _, trivial⟩ trivial) ?_
   refine am ⟨tab [(0, .mapr 0)], ac [], 0⟩ ?_ ?_
   ·
    refine q1 _ ?_
    exact aZ.nil' (nm [] ⟨.mp _, trivial⟩ trivial)
   refine aG ?_
   refine am ⟨tab [(0, .d (eL (some 8) (eA8 (D.int .u16)) ([] : List (A8 Int)))), (4, vb false)], ac [], 0⟩ ?_ ?_
   ·
    iterate 2 refine q1 _ ?_
    exact aZ.nil' (nm [] ⟨.nne _ _, .d _, trivial⟩ trivial)
   refine aW (t := false) rfl (by decide) ?_
   refine bh ?_
   obtain ⟨l1, hl1, h⟩ := ay h
   refine am ⟨tab [(2, .loc 0 0 l1.length)], ac [(0, .lst true (some 8) (List.map (eA8 (D.int .u16)) l1))], 1⟩ ?_ ?_
   ·
    refine step (v := .loc 0 0 (([] : List (A8 Int)).length)) (σ' := (al (ac []) 0 (some (.lst true (some 8) (List.map (eA8 (D.int .u16)) ([] : List (A8 Int))))))) (n' := 1) rfl ?_
    refine q1 _ ?_
    refine step (v := .loc 1 0 l1.length) (σ' := (al (al (al (ac []) 0 (some (.lst true (some 8) (List.map (eA8 (D.int .u16)) ([] : List (A8 Int)))))) 0 none) 1 (some (.lst true (some 8) (List.map (eA8 (D.int .u16)) l1))))) (n' := 2) (eP (xs := ([] : List (A8 Int))) (ys := ([] : List (A8 Int))) (e := (eA8 (D.int .u16))) hl1 rfl rfl rfl (fc (xs := ([] : List (A8 Int))) (e := (eA8 (D.int .u16))) rfl)) ?_
    refine q1 _ ?_
    exact nR [1]
   have hh := aq h
   subst hh
   refine aV ?_
   exact ⟨.inr rfl, _, rfl, rfl, dh.sub ⟨rfl, trivial⟩, rfl⟩
 | cons x xs =>
  refine bY.introN (bl := []) (bl' := [(0, .lst true (some 8) (List.map (eA8 (D.int .u16)) r))]) oF (show 1 ≤ 8 by decide) rfl ?_
  refine bb (s0 := ⟨tab [(0, .d (eL (some 8) (eA8 (D.int .u16)) (x :: xs)))], ac [], 0⟩) (nr []) ?_
  refine am ⟨tab [(0, .d (eL (some 8) (eA8 (D.int .u16)) (x :: xs)))], ac [], 0⟩ ?_ ?_
  ·
   refine q1 _ ?_
   exact nR []
  refine aG ?_
  refine am ⟨tab [(0, .d (eL (some 8) (eA8 (D.int .u16)) (x :: xs))), (4, vb false)], ac [], 0⟩ ?_ ?_
  ·
   iterate 2 refine q1 _ ?_
   exact nR []
  refine aW (t := false) rfl (by decide) ?_
  refine bh ?_
  obtain ⟨l1, hl1, h⟩ := ay h
  refine am ⟨tab [(2, .loc 0 0 l1.length)], ac [(0, .lst true (some 8) (List.map (eA8 (D.int .u16)) l1))], 1⟩ ?_ ?_
  ·
   refine step (v := .loc 0 0 (([] : List (A8 Int)).length)) (σ' := (al (ac []) 0 (some (.lst true (some 8) (List.map (eA8 (D.int .u16)) ([] : List (A8 Int))))))) (n' := 1) rfl ?_
   refine q1 _ ?_
   refine step (v := .loc 1 0 l1.length) (σ' := (al (al (al (ac []) 0 (some (.lst true (some 8) (List.map (eA8 (D.int .u16)) ([] : List (A8 Int)))))) 0 none) 1 (some (.lst true (some 8) (List.map (eA8 (D.int .u16)) l1))))) (n' := 2) (eP (xs := ([] : List (A8 Int))) (ys := (x :: xs)) (e := (eA8 (D.int .u16))) hl1 rfl rfl rfl (fc (xs := (x :: xs)) (e := (eA8 (D.int .u16))) rfl)) ?_
   refine q1 _ ?_
   exact nR [1]
  have hh := aq h
  subst hh
  refine aV ?_
  exact ⟨.inr rfl, _, rfl, rfl, dh.sub ⟨rfl, trivial⟩, rfl⟩
theorem sE {a0 : Int} {r : Bool} (h : nz a0 = some r) : PCall Try.prog 136 [.int .u16 a0] (.bool r) := by
 refine PCall.introN xO (show 1 ≤ 6 by decide) ?_
 refine bb (s0 := ⟨tab [(0, vh a0)], ac [], 0⟩) (nr []) ?_
 refine am ⟨tab [(0, vh a0)], ac [], 0⟩ ?_ ?_
 ·
  refine q1 _ ?_
  exact nR []
 refine am ⟨tab [(2, vb (a0 != a0))], ac [], 0⟩ ?_ ?_
 ·
  iterate 4 refine q1 _ ?_
  exact nR []
 have hh := aq h
 subst hh
 refine aV ?_
 show FQ _ _ _ _
 exact br (.inr rfl) (bg (v := vb (a0 != a0)) rfl rfl) (RV.d trivial)
theorem zM {a0 : Int} {a1 : Int} {r : Int} (h : qU a0 a1 = some r) : PCall Try.prog 123 [.int .u16 a0, .int .u16 a1] (.int .i64 r) := by
 refine PCall.introN xQ (show 2 ≤ 20 by decide) ?_
 refine bb (s0 := ⟨tab [(0, vh a0), (1, vh a1)], ac [], 0⟩) (nr []) ?_
 refine am ⟨tab [(0, vh a0), (1, vh a1)], ac [], 0⟩ ?_ ?_
 ·
  refine q1 _ ?_
  exact nR []
 obtain ⟨r1, hr1, h⟩ := ay h
 refine am ⟨tab [(0, vh a0), (1, vh a1), (5, vb r1)], ac [], 0⟩ ?_ ?_
 ·
  refine q1 _ ?_
  refine bC (r := .bool r1) (aF aQ.nil') (sE hr1) ?_
  refine q1 _ ?_
  exact nR []
 obtain ⟨r2, hr2, h⟩ := ay h
 refine am ⟨tab [(0, vh a0), (1, vh a1), (5, vb r1), (6, vb r2)], ac [], 0⟩ ?_ ?_
 ·
  refine q1 _ ?_
  refine bC (r := .bool r2) (aF aQ.nil') (sE hr2) ?_
  refine q1 _ ?_
  exact nR []
 refine aG ?_
 refine am ⟨tab [(0, vh a0), (1, vh a1), (6, vb r2), (11, vb r1)], ac [], 0⟩ ?_ ?_
 ·
  refine q1 _ ?_
  exact nR []
 by_cases hc3 : r1 = true
 ·
  replace h := aO hc3 h
  refine aY (t := r1) rfl hc3 ?_
  refine aG ?_
  refine am ⟨tab [(12, vb r2)], ac [], 0⟩ ?_ ?_
  ·
   refine q1 _ ?_
   exact nR []
  by_cases hc4 : r2 = true
  ·
   replace h := aO hc4 h
   refine aY (t := r2) rfl hc4 ?_
   refine am ⟨tab [(4, vi 0)], ac [], 0⟩ ?_ ?_
   ·
    refine q1 _ ?_
    exact nR []
   have hh := aq h
   subst hh
   refine aV ?_
   show FQ _ _ _ _
   exact br (.inr rfl) (bg (v := vi 0) rfl rfl) (RV.d trivial)
  ·
   replace h := aP hc4 h
   refine aW (t := r2) rfl hc4 ?_
   refine bh ?_
   refine am ⟨tab [(4, vi (-1))], ac [], 0⟩ ?_ ?_
   ·
    refine q1 _ ?_
    exact nR []
   have hh := aq h
   subst hh
   refine aV ?_
   show FQ _ _ _ _
   exact br (.inr rfl) (bg (v := vi (-1)) rfl rfl) (RV.d trivial)
 ·
  replace h := aP hc3 h
  refine aW (t := r1) rfl hc3 ?_
  refine bh ?_
  refine aG ?_
  refine am ⟨tab [(0, vh a0), (1, vh a1), (13, vb r2)], ac [], 0⟩ ?_ ?_
  ·
   refine q1 _ ?_
   exact nR []
  by_cases hc5 : r2 = true
  ·
   replace h := aO hc5 h
   refine aY (t := r2) rfl hc5 ?_
   refine am ⟨tab [(4, vi 1)], ac [], 0⟩ ?_ ?_
   ·
    refine q1 _ ?_
    exact nR []
   have hh := aq h
   subst hh
   refine aV ?_
   show FQ _ _ _ _
   exact br (.inr rfl) (bg (v := vi 1) rfl rfl) (RV.d trivial)
  ·
   replace h := aP hc5 h
   refine aW (t := r2) rfl hc5 ?_
   refine bh ?_
   refine aG ?_
   refine am ⟨tab [(0, vh a0), (1, vh a1), (16, vb (decide (a0 < a1)))], ac [], 0⟩ ?_ ?_
   ·
    iterate 3 refine q1 _ ?_
    exact nR []
   by_cases hc6 : decide (a0 < a1) = true
   ·
    replace h := aO hc6 h
    refine aY (t := decide (a0 < a1)) rfl hc6 ?_
    refine am ⟨tab [(4, vi (-1))], ac [], 0⟩ ?_ ?_
    ·
     refine q1 _ ?_
     exact nR []
    have hh := aq h
    subst hh
    refine aV ?_
    show FQ _ _ _ _
    exact br (.inr rfl) (bg (v := vi (-1)) rfl rfl) (RV.d trivial)
   ·
    replace h := aP hc6 h
    refine aW (t := decide (a0 < a1)) rfl hc6 ?_
    refine bh ?_
    refine aG ?_
    refine am ⟨tab [(19, vb (decide (a0 > a1)))], ac [], 0⟩ ?_ ?_
    ·
     iterate 3 refine q1 _ ?_
     exact nR []
    by_cases hc7 : decide (a0 > a1) = true
    ·
     replace h := aO hc7 h
     refine aY (t := decide (a0 > a1)) rfl hc7 ?_
     refine am ⟨tab [(4, vi 1)], ac [], 0⟩ ?_ ?_
     ·
      refine q1 _ ?_
      exact nR []
     have hh := aq h
     subst hh
     refine aV ?_
     show FQ _ _ _ _
     exact br (.inr rfl) (bg (v := vi 1) rfl rfl) (RV.d trivial)
    ·
     replace h := aP hc7 h
     refine aW (t := decide (a0 > a1)) rfl hc7 ?_
     refine bh ?_
     refine am ⟨tab [(4, vi 0)], ac [], 0⟩ ?_ ?_
     ·
      refine q1 _ ?_
      exact nR []
     have hh := aq h
     subst hh
     refine aV ?_
     show FQ _ _ _ _
     exact br (.inr rfl) (bg (v := vi 0) rfl rfl) (RV.d trivial)
theorem zN {a0 : (A8 Int)} {a1 : (A8 Int)} {r : Int} (h : nA a0 a1 = some r) : PCall Try.prog 112 [eA8 (D.int .u16) a0, eA8 (D.int .u16) a1] (.int .i64 r) := by
 refine PCall.introN xT (show 2 ≤ 21 by decide) ?_
 refine bb (s0 := ⟨tab [(0, .d (eA8 (D.int .u16) a0)), (1, .d (eA8 (D.int .u16) a1))], ac [], 0⟩) (nr []) ?_
 refine am ⟨tab [(2, .d (.cptr (some 8) (eA8 (D.int .u16) a0) 0)), (3, .d (.cptr (some 8) (eA8 (D.int .u16) a1) 0))], ac [], 0⟩ ?_ ?_
 ·
  iterate 3 refine q1 _ ?_
  exact nR []
 refine aG ?_
 refine am ⟨tab [(2, .d (.cptr (some 8) (eA8 (D.int .u16) a0) 0)), (3, .d (.cptr (some 8) (eA8 (D.int .u16) a1) 0)), (7, vi 0)], ac [], 0⟩ ?_ ?_
 ·
  refine q1 _ ?_
  exact nR []
 obtain ⟨q11, hl, h⟩ := ay h
 refine bG ?_
 refine dp (cQ 8) (fun (i1 : Int) (qq : Unit) => ⟨tab [(2, .d (.cptr (some 8) (eA8 (D.int .u16) a0) 0)), (3, .d (.cptr (some 8) (eA8 (D.int .u16) a1) 0)), (7, vi i1)], ac [], 0⟩) 0 (fun (qq : Unit) => ⟨tab [], ac [], 0⟩) bK cR (r := r) hl (by unfold bK; omega) ?_ ?_ ?_ ?_
 ·
  rintro i1 ⟨⟩ xr6 hinv4 hgo3 h
  show aI _ _ _ _ _ ⟨tab [(2, .d (.cptr (some 8) (eA8 (D.int .u16) a0) 0)), (3, .d (.cptr (some 8) (eA8 (D.int .u16) a1) 0)), (7, vi i1)], ac [], 0⟩
  have hc5 : decide (i1 < 8) = true := decide_eq_true hgo3
  refine am ⟨tab [(2, .d (.cptr (some 8) (eA8 (D.int .u16) a0) 0)), (3, .d (.cptr (some 8) (eA8 (D.int .u16) a1) 0)), (7, vi i1), (8, vb (decide (i1 < 8)))], ac [], 0⟩ ?_ ?_
  ·
   refine q1 _ ?_
   exact nR []
  refine aG ?_
  refine aY (t := decide (i1 < 8)) rfl hc5 ?_
  refine bh ?_
  refine aG ?_
  refine bG ?_
  refine am ⟨tab [(2, .d (.cptr (some 8) (eA8 (D.int .u16) a0) 0)), (3, .d (.cptr (some 8) (eA8 (D.int .u16) a1) 0)), (5, vi i1), (7, vi i1)], ac [], 0⟩ ?_ ?_
  ·
   iterate 2 refine q1 _ ?_
   exact nR []
  obtain ⟨x7, hx7, h⟩ := ay h
  obtain ⟨x8, hx8, h⟩ := ay h
  obtain ⟨r9, hr9, h⟩ := ay h
  refine am ⟨tab [(2, .d (.cptr (some 8) (eA8 (D.int .u16) a0) 0)), (3, .d (.cptr (some 8) (eA8 (D.int .u16) a1) 0)), (6, vi r9), (7, vi i1)], ac [], 0⟩ ?_ ?_
  ·
   refine q1 _ ?_
   refine step (v := .d (.cptr (some 8) (eA8 (D.int .u16) a0) (0 + i1.toNat * 1))) (iu (xs := a0.l) hx7 rfl rfl rfl) ?_
   refine step (v := vh x7) (ip rfl (io (e := (D.int .u16)) (xs := a0.l) (pre := []) (post := []) hx7 rfl (by decide))) ?_
   refine q1 _ ?_
   refine step (v := .d (.cptr (some 8) (eA8 (D.int .u16) a1) (0 + i1.toNat * 1))) (iu (xs := a1.l) hx8 rfl rfl rfl) ?_
   refine step (v := vh x8) (ip rfl (io (e := (D.int .u16)) (xs := a1.l) (pre := []) (post := []) hx8 rfl (by decide))) ?_
   refine bC (r := .int .i64 r9) (aF (aF aQ.nil')) (zM hr9) ?_
   refine q1 _ ?_
   exact nR []
  refine am ⟨tab [(2, .d (.cptr (some 8) (eA8 (D.int .u16) a0) 0)), (3, .d (.cptr (some 8) (eA8 (D.int .u16) a1) 0)), (6, vi r9), (7, vi i1), (18, vb (r9 != 0))], ac [], 0⟩ ?_ ?_
  ·
   iterate 2 refine q1 _ ?_
   exact nR []
  by_cases hc10 : (r9 != 0) = true
  ·
   replace h := aO hc10 h
   refine aY (t := (r9 != 0)) rfl hc10 ?_
   refine am ⟨tab [(4, vi r9)], ac [], 0⟩ ?_ ?_
   ·
    iterate 2 refine q1 _ ?_
    exact nR []
   obtain ⟨r11, kr11, hr⟩ := cq (o := some r9) (g := Br.ret) h
   subst hr
   have h := kr11
   have hh := aq h
   subst hh
   refine aV ?_
   refine And.intro (fun hn => nomatch hn) ?_
   intro hq
   have hq := hq.symm
   subst hq
   show FQ _ _ _ _
   exact br (.inr rfl) (bg (v := vi r9) rfl rfl) (RV.d trivial)
  ·
   replace h := aP hc10 h
   refine aW (t := (r9 != 0)) rfl hc10 ?_
   refine bh ?_
   have hh := aq h
   subst hh
   refine bU ⟨tab [(2, .d (.cptr (some 8) (eA8 (D.int .u16) a0) 0)), (3, .d (.cptr (some 8) (eA8 (D.int .u16) a1) 0)), (7, vi (i1 + 1))], ac [], 0⟩ ?_ ?_
   ·
    refine step (v := vi (i1 + 1)) (cL (cM hinv4 hgo3 (by decide)) rfl rfl) ?_
    refine q1 _ ?_
    exact nR []
   exact And.intro rfl rfl
 ·
  rintro i1 ⟨⟩ hinv4 hgo3
  show aI _ _ _ _ _ ⟨tab [(2, .d (.cptr (some 8) (eA8 (D.int .u16) a0) 0)), (3, .d (.cptr (some 8) (eA8 (D.int .u16) a1) 0)), (7, vi i1)], ac [], 0⟩
  have hc5 : ¬ (decide (i1 < 8) = true) := fun hq => hgo3 (of_decide_eq_true hq)
  refine am ⟨tab [(2, .d (.cptr (some 8) (eA8 (D.int .u16) a0) 0)), (3, .d (.cptr (some 8) (eA8 (D.int .u16) a1) 0)), (7, vi i1), (8, vb (decide (i1 < 8)))], ac [], 0⟩ ?_ ?_
  ·
   refine q1 _ ?_
   exact nR []
  refine aG ?_
  refine aW (t := decide (i1 < 8)) rfl hc5 ?_
  refine bb (s0 := ⟨tab [], ac [], 0⟩) (nr []) ?_
  refine cI ?_
  exact And.intro rfl rfl
 ·
  intro r' hq
  subst hq
  exact aq h
 rintro ⟨⟩ rfl
 refine am ⟨tab [(4, vi 0)], ac [], 0⟩ ?_ ?_
 ·
  refine q1 _ ?_
  exact nR []
 have hh := aq h
 subst hh
 refine aV ?_
 show FQ _ _ _ _
 exact br (.inr rfl) (bg (v := vi 0) rfl rfl) (RV.d trivial)
theorem zO {a0 : List (A8 Int)} {a1 : (A8 Int) → (A8 Int) → Option Int} (hf : u3 Try.prog (.func 112 []) (eA8 (D.int .u16)) (eA8 (D.int .u16)) (D.int .i64) a1) {r : List (A8 Int)} (h : iy a0 a1 = some r) : bY Try.prog 111 [.loc 0 0 a0.length, .d (.func 112 [])] (ac [(0, .lst true (some 8) (List.map (eA8 (D.int .u16)) a0))]) 1 (.d (.tup [])) (ac [(0, .lst true (some 8) (List.map (eA8 (D.int .u16)) r))]) 1 := by
 unfold iy at h
 split at h
 ·
  rename_i hc
  cases h
  exact w9 hc
 ·
  cases h
theorem zP {a0 : (List (A8 Int))} {r : (List (A8 Int))} (h : j3 a0 = some r) : bY Try.prog 113 [.loc 0 0 a0.length] (ac [(0, .lst true (some 8) (List.map (eA8 (D.int .u16)) a0))]) 1 (.loc 0 0 r.length) (ac [(0, .lst true (some 8) (List.map (eA8 (D.int .u16)) r))]) 1 := by
 refine bY.introN (bl := [(0, .lst true (some 8) (List.map (eA8 (D.int .u16)) a0))]) (bl' := [(0, .lst true (some 8) (List.map (eA8 (D.int .u16)) r))]) xX (show 1 ≤ 61 by decide) rfl ?_
 refine bb (s0 := ⟨tab [(0, .loc 0 0 a0.length)], ac [(0, .lst true (some 8) (List.map (eA8 (D.int .u16)) a0))], 1⟩) (nr [0]) ?_
 refine am ⟨tab [(0, .loc 0 0 a0.length)], ac [(0, .lst true (some 8) (List.map (eA8 (D.int .u16)) a0))], 1⟩ ?_ ?_
 ·
  refine q1 _ ?_
  exact nR [0]
 refine aG ?_
 refine am ⟨tab [(0, .loc 0 0 a0.length), (8, vb (decide ((a0.length : Int) < 2)))], ac [(0, .lst true (some 8) (List.map (eA8 (D.int .u16)) a0))], 1⟩ ?_ ?_
 ·
  iterate 3 refine q1 _ ?_
  exact nR [0]
 by_cases hc1 : decide ((a0.length : Int) < 2) = true
 ·
  replace h := aO hc1 h
  refine aY (t := decide ((a0.length : Int) < 2)) rfl hc1 ?_
  refine am ⟨tab [(2, .loc 0 0 a0.length)], ac [(0, .lst true (some 8) (List.map (eA8 (D.int .u16)) a0))], 1⟩ ?_ ?_
  ·
   iterate 2 refine q1 _ ?_
   exact nR [0]
  have hh := aq h
  subst hh
  refine aV ?_
  exact ⟨.inr rfl, _, rfl, rfl, dh.sub ⟨rfl, trivial⟩, rfl⟩
 ·
  replace h := aP hc1 h
  refine aW (t := decide ((a0.length : Int) < 2)) rfl hc1 ?_
  refine bh ?_
  refine aG ?_
  refine am ⟨tab [(0, .loc 0 0 a0.length), (3, vi 1)], ac [(0, .lst true (some 8) (List.map (eA8 (D.int .u16)) a0))], 1⟩ ?_ ?_
  ·
   refine q1 _ ?_
   exact nR [0]
  obtain ⟨q34, hl, h⟩ := ay h
  refine bG ?_
  refine dp (cQ (a0.length : Int)) (fun (i2 : Int) (qq : Unit) => ⟨tab [(0, .loc 0 0 a0.length), (3, vi i2)], ac [(0, .lst true (some 8) (List.map (eA8 (D.int .u16)) a0))], 1⟩) 0 (fun (qq : Unit) => ⟨tab [(0, .loc 0 0 a0.length)], ac [(0, .lst true (some 8) (List.map (eA8 (D.int .u16)) a0))], 1⟩) bK cR (r := r) hl (by unfold bK; omega) ?_ ?_ ?_ ?_
  ·
   rintro i2 ⟨⟩ xr7 hinv5 hgo4 h
   show aI _ _ _ _ _ ⟨tab [(0, .loc 0 0 a0.length), (3, vi i2)], ac [(0, .lst true (some 8) (List.map (eA8 (D.int .u16)) a0))], 1⟩
   have hc6 : decide (i2 < (a0.length : Int)) = true := decide_eq_true hgo4
   refine aG ?_
   refine am ⟨tab [(0, .loc 0 0 a0.length), (3, vi i2), (12, vi (a0.length : Int)), (13, vb (decide (i2 < (a0.length : Int))))], ac [(0, .lst true (some 8) (List.map (eA8 (D.int .u16)) a0))], 1⟩ ?_ ?_
   ·
    iterate 4 refine q1 _ ?_
    exact nR [0]
   refine c8 12 rfl fun hB3 => ?_
   refine aY (t := decide (i2 < (a0.length : Int))) rfl hc6 ?_
   refine bh ?_
   refine aG ?_
   refine bG ?_
   obtain ⟨x8, hx8, h⟩ := ay h
   obtain ⟨x9, hx9, h⟩ := ay h
   refine am ⟨tab [(0, .loc 0 0 a0.length), (3, vi i2), (25, vb (x8 == x9))], ac [(0, .lst true (some 8) (List.map (eA8 (D.int .u16)) a0))], 1⟩ ?_ ?_
   ·
    iterate 2 refine q1 _ ?_
    refine step (v := .ptr 0 i2.toNat 0) (iX (xs := a0) (e := (eA8 (D.int .u16))) hx8 rfl rfl rfl rfl) ?_
    refine step (v := .d (eA8 (D.int .u16) x8)) (iY (xs := a0) (e := (eA8 (D.int .u16))) hx8 rfl rfl rfl) ?_
    iterate 3 refine q1 _ ?_
    refine step (v := .ptr 0 (IntKind.i64.wrap (i2 - 1)).toNat 0) (iX (xs := a0) (e := (eA8 (D.int .u16))) hx9 rfl rfl rfl rfl) ?_
    refine step (v := .d (eA8 (D.int .u16) x9)) (iY (xs := a0) (e := (eA8 (D.int .u16))) hx9 rfl rfl rfl) ?_
    refine step (v := vb (x8 == x9)) (f4 (neg := false) rfl rfl (ju x8 x9)) ?_
    exact nR [0]
   by_cases hc10 : (x8 == x9) = true
   ·
    replace h := aO hc10 h
    refine aY (t := (x8 == x9)) rfl hc10 ?_
    obtain ⟨l11, hl11, h⟩ := ay h
    refine am ⟨tab [(0, .loc 0 0 a0.length), (3, vi i2), (4, .loc 0 i2.toNat ((a0.length : Int).toNat - i2.toNat))], ac [(0, .lst true (some 8) (List.map (eA8 (D.int .u16)) a0))], 1⟩ ?_ ?_
    ·
     iterate 2 refine q1 _ ?_
     refine step (v := .loc 0 i2.toNat ((a0.length : Int).toNat - i2.toNat)) (kP (xs := a0) (e := (eA8 (D.int .u16))) hl11 rfl rfl rfl ⟨_, rfl⟩ rfl) ?_
     refine q1 _ ?_
     exact nR [0]
    refine aG ?_
    refine am ⟨tab [(0, .loc 0 0 a0.length), (3, vi i2), (4, .loc 0 i2.toNat ((a0.length : Int).toNat - i2.toNat)), (5, vi 1)], ac [(0, .lst true (some 8) (List.map (eA8 (D.int .u16)) a0))], 1⟩ ?_ ?_
    ·
     refine q1 _ ?_
     exact nR [0]
    obtain ⟨q33, hl, h⟩ := ay h
    obtain ⟨z30, z31⟩ := q33
    refine bG ?_
    refine jU (cQ (l11.length : Int)) (fun (i14 : Int) (qq : ((List (A8 Int)) × Int)) => ⟨tab [(0, .loc 0 0 qq.1.length), (3, vi qq.2), (4, .loc 0 i2.toNat ((a0.length : Int).toNat - i2.toNat)), (5, vi i14)], ac [(0, .lst true (some 8) (List.map (eA8 (D.int .u16)) qq.1))], 1⟩) 2 (fun (qq : ((List (A8 Int)) × Int)) => ⟨tab [(0, .loc 0 0 qq.1.length), (3, vi qq.2)], ac [(0, .lst true (some 8) (List.map (eA8 (D.int .u16)) qq.1))], 1⟩) bK cR hl (by unfold bK; omega) ?_ ?_ ?_
    ·
     rintro i14 ⟨l12, i13⟩ xr19 hinv17 hgo16 h
     show aI _ _ _ _ _ ⟨tab [(0, .loc 0 0 l12.length), (3, vi i13), (4, .loc 0 i2.toNat ((a0.length : Int).toNat - i2.toNat)), (5, vi i14)], ac [(0, .lst true (some 8) (List.map (eA8 (D.int .u16)) l12))], 1⟩
     have hc18 : decide (i14 < (l11.length : Int)) = true := decide_eq_true hgo16
     refine aG ?_
     refine am ⟨tab [(0, .loc 0 0 l12.length), (3, vi i13), (4, .loc 0 i2.toNat ((a0.length : Int).toNat - i2.toNat)), (5, vi i14), (31, vi (l11.length : Int)), (32, vb (decide (i14 < (l11.length : Int))))], ac [(0, .lst true (some 8) (List.map (eA8 (D.int .u16)) l12))], 1⟩ ?_ ?_
     ·
      iterate 2 refine q1 _ ?_
      refine step (v := vi (l11.length : Int)) (qE (lo := i2) (hi := (a0.length : Int)) rfl hl11) ?_
      refine q1 _ ?_
      exact nR [0]
     refine c8 31 rfl fun hB15 => ?_
     refine aY (t := decide (i14 < (l11.length : Int))) rfl hc18 ?_
     refine bh ?_
     obtain ⟨q29, hv, h⟩ := ay h
     obtain ⟨l27, y28⟩ := q29
     refine gV ⟨tab [(0, .loc 0 0 l27.length), (3, vi y28), (4, .loc 0 i2.toNat ((a0.length : Int).toNat - i2.toNat)), (5, vi i14)], ac [(0, .lst true (some 8) (List.map (eA8 (D.int .u16)) l27))], 1⟩ ?_ ?_
     ·
      replace h := hv
      refine bG ?_
      obtain ⟨x20, hx20, h⟩ := ay h
      obtain ⟨x21, hx21, h⟩ := ay h
      obtain ⟨x22, hx22, h⟩ := ay h
      obtain ⟨x23, hx23, h⟩ := ay h
      refine am ⟨tab [(0, .loc 0 0 l12.length), (3, vi i13), (4, .loc 0 i2.toNat ((a0.length : Int).toNat - i2.toNat)), (5, vi i14), (44, vb (!(x21 == x23)))], ac [(0, .lst true (some 8) (List.map (eA8 (D.int .u16)) l12))], 1⟩ ?_ ?_
      ·
       iterate 2 refine q1 _ ?_
       refine step (v := .ptr 0 (i2 + i14).toNat 0) (oC (xs := l12) (e := (eA8 (D.int .u16))) hx20 rfl rfl rfl) ?_
       refine step (v := .d (eA8 (D.int .u16) x21)) (iY (xs := l12) (e := (eA8 (D.int .u16))) hx21 rfl rfl rfl) ?_
       iterate 3 refine q1 _ ?_
       refine step (v := .ptr 0 (i2 + (IntKind.i64.wrap (i14 - 1))).toNat 0) (oC (xs := l12) (e := (eA8 (D.int .u16))) hx22 rfl rfl rfl) ?_
       refine step (v := .d (eA8 (D.int .u16) x23)) (iY (xs := l12) (e := (eA8 (D.int .u16))) hx23 rfl rfl rfl) ?_
       refine step (v := vb (!(x21 == x23))) (f4 (neg := true) rfl rfl (ju x21 x23)) ?_
       exact nR [0]
      by_cases hc24 : (!(x21 == x23)) = true
      ·
       replace h := aO hc24 h
       refine aY (t := (!(x21 == x23))) rfl hc24 ?_
       obtain ⟨x25, hx25, h⟩ := ay h
       obtain ⟨l26, hl26, h⟩ := ay h
       refine am ⟨tab [(0, .loc 0 0 l26.length), (3, vi i13), (4, .loc 0 i2.toNat ((a0.length : Int).toNat - i2.toNat)), (5, vi i14)], ac [(0, .lst true (some 8) (List.map (eA8 (D.int .u16)) l26))], 1⟩ ?_ ?_
       ·
        iterate 4 refine q1 _ ?_
        refine step (v := .ptr 0 (i2 + i14).toNat 0) (oC (xs := l12) (e := (eA8 (D.int .u16))) hx20 rfl rfl rfl) ?_
        refine step (v := .d (eA8 (D.int .u16) x21)) (iY (xs := l12) (e := (eA8 (D.int .u16))) hx21 rfl rfl rfl) ?_
        refine step (v := .ptr 0 i13.toNat 0) (iX (xs := l12) (e := (eA8 (D.int .u16))) hx25 rfl rfl rfl rfl) ?_
        refine step (v := V.undef) (σ' := (al (ac [(0, .lst true (some 8) (List.map (eA8 (D.int .u16)) l12))]) 0 (some (.lst true (some 8) (List.map (eA8 (D.int .u16)) l26))))) (n' := 1) (qx (e := (eA8 (D.int .u16))) (v' := x21) hl26 rfl rfl rfl rfl rfl) ?_
        exact aZ.nil' (nm [0] ⟨.le (id := 0) (qv hl26).symm (show 0 < 1 by decide), .d _, .lc 0, .d _, trivial⟩ ⟨⟨show 0 < 1 by decide, _, rfl, .lst _ _ _⟩, trivial⟩)
       have hh := aq h
       obtain ⟨he0, ht0⟩ := Prod.mk.inj hh
       subst he0
       subst ht0
       refine bU ⟨tab [(0, .loc 0 0 l26.length), (3, vi (IntKind.i64.wrap (i13 + 1))), (4, .loc 0 i2.toNat ((a0.length : Int).toNat - i2.toNat)), (5, vi i14)], ac [(0, .lst true (some 8) (List.map (eA8 (D.int .u16)) l26))], 1⟩ ?_ ?_
       ·
        iterate 3 refine q1 _ ?_
        exact nR [0]
       exact And.intro rfl rfl
      ·
       replace h := aP hc24 h
       refine aW (t := (!(x21 == x23))) rfl hc24 ?_
       have hh := aq h
       obtain ⟨he0, ht0⟩ := Prod.mk.inj hh
       subst he0
       subst ht0
       refine bb (s0 := ⟨tab [(0, .loc 0 0 l12.length), (3, vi i13), (4, .loc 0 i2.toNat ((a0.length : Int).toNat - i2.toNat)), (5, vi i14)], ac [(0, .lst true (some 8) (List.map (eA8 (D.int .u16)) l12))], 1⟩) (nr [0]) ?_
       refine bh ?_
       exact And.intro rfl rfl
     have hh := aq h
     subst hh
     refine bU ⟨tab [(0, .loc 0 0 l27.length), (3, vi y28), (4, .loc 0 i2.toNat ((a0.length : Int).toNat - i2.toNat)), (5, vi (i14 + 1))], ac [(0, .lst true (some 8) (List.map (eA8 (D.int .u16)) l27))], 1⟩ ?_ ?_
     ·
      refine q1 _ ?_
      refine step (v := vi (i14 + 1)) (cL (cM hinv17 hgo16 hB15) rfl rfl) ?_
      refine q1 _ ?_
      exact nR [0]
     exact And.intro rfl rfl
    ·
     rintro i14 ⟨l12, i13⟩ hinv17 hgo16
     show aI _ _ _ _ _ ⟨tab [(0, .loc 0 0 l12.length), (3, vi i13), (4, .loc 0 i2.toNat ((a0.length : Int).toNat - i2.toNat)), (5, vi i14)], ac [(0, .lst true (some 8) (List.map (eA8 (D.int .u16)) l12))], 1⟩
     have hc18 : ¬ (decide (i14 < (l11.length : Int)) = true) := fun hq => hgo16 (of_decide_eq_true hq)
     refine aG ?_
     refine am ⟨tab [(0, .loc 0 0 l12.length), (3, vi i13), (4, .loc 0 i2.toNat ((a0.length : Int).toNat - i2.toNat)), (5, vi i14), (32, vb (decide (i14 < (l11.length : Int))))], ac [(0, .lst true (some 8) (List.map (eA8 (D.int .u16)) l12))], 1⟩ ?_ ?_
     ·
      iterate 2 refine q1 _ ?_
      refine step (v := vi (l11.length : Int)) (qE (lo := i2) (hi := (a0.length : Int)) rfl hl11) ?_
      refine q1 _ ?_
      exact nR [0]
     refine aW (t := decide (i14 < (l11.length : Int))) rfl hc18 ?_
     refine bb (s0 := ⟨tab [(0, .loc 0 0 l12.length), (3, vi i13)], ac [(0, .lst true (some 8) (List.map (eA8 (D.int .u16)) l12))], 1⟩) (nr [0]) ?_
     refine cI ?_
     exact And.intro rfl rfl
    obtain ⟨l32, hl32, h⟩ := ay h
    refine am ⟨tab [(0, .loc 0 0 z30.length), (3, vi z31)], ac [(0, .lst true (some 8) (List.map (eA8 (D.int .u16)) (z30.take z31.toNat)))], 1⟩ ?_ ?_
    ·
     iterate 2 refine q1 _ ?_
     refine step (v := .loc 0 z31.toNat ((z30.length : Int).toNat - z31.toNat)) (kP (xs := z30) (e := (eA8 (D.int .u16))) hl32 rfl rfl rfl ⟨_, rfl⟩ rfl) ?_
     refine step (v := .d (.tup [])) (σ' := (al (ac [(0, .lst true (some 8) (List.map (eA8 (D.int .u16)) z30))]) 0 (some (.lst true (some 8) (List.map (eA8 (D.int .u16)) (z30.take z31.toNat)))))) (n' := 1) (u7 (xs := z30) (e := (eA8 (D.int .u16))) rfl rfl (by have := jW hl32; omega)) ?_
     exact nR [0]
    refine am ⟨tab [(2, .loc 0 0 ((z30.take z31.toNat).length))], ac [(0, .lst true (some 8) (List.map (eA8 (D.int .u16)) (z30.take z31.toNat)))], 1⟩ ?_ ?_
    ·
     iterate 2 refine q1 _ ?_
     refine step (v := .loc 0 0 ((z30.take z31.toNat).length)) (u9 (xs := z30) (e := (eA8 (D.int .u16))) hl32 rfl rfl rfl rfl ⟨_, rfl⟩) ?_
     refine q1 _ ?_
     exact nR [0]
    obtain ⟨r33, kr33, hr⟩ := cq (o := some (z30.take z31.toNat)) (g := Br.ret) h
    subst hr
    have h := kr33
    have hh := aq h
    subst hh
    refine aV ?_
    refine And.intro (fun hn => nomatch hn) ?_
    intro hq
    have hq := hq.symm
    subst hq
    exact ⟨.inr rfl, _, rfl, rfl, dh.sub ⟨rfl, trivial⟩, rfl⟩
   ·
    replace h := aP hc10 h
    refine aW (t := (x8 == x9)) rfl hc10 ?_
    refine bh ?_
    have hh := aq h
    subst hh
    refine bU ⟨tab [(0, .loc 0 0 a0.length), (3, vi (i2 + 1))], ac [(0, .lst true (some 8) (List.map (eA8 (D.int .u16)) a0))], 1⟩ ?_ ?_
    ·
     refine q1 _ ?_
     refine step (v := vi (i2 + 1)) (cL (cM hinv5 hgo4 hB3) rfl rfl) ?_
     refine q1 _ ?_
     exact nR [0]
    exact And.intro rfl rfl
  ·
   rintro i2 ⟨⟩ hinv5 hgo4
   show aI _ _ _ _ _ ⟨tab [(0, .loc 0 0 a0.length), (3, vi i2)], ac [(0, .lst true (some 8) (List.map (eA8 (D.int .u16)) a0))], 1⟩
   have hc6 : ¬ (decide (i2 < (a0.length : Int)) = true) := fun hq => hgo4 (of_decide_eq_true hq)
   refine aG ?_
   refine am ⟨tab [(0, .loc 0 0 a0.length), (3, vi i2), (13, vb (decide (i2 < (a0.length : Int))))], ac [(0, .lst true (some 8) (List.map (eA8 (D.int .u16)) a0))], 1⟩ ?_ ?_
   ·
    iterate 4 refine q1 _ ?_
    exact nR [0]
   refine aW (t := decide (i2 < (a0.length : Int))) rfl hc6 ?_
   refine bb (s0 := ⟨tab [(0, .loc 0 0 a0.length)], ac [(0, .lst true (some 8) (List.map (eA8 (D.int .u16)) a0))], 1⟩) (nr [0]) ?_
   refine cI ?_
   exact And.intro rfl rfl
  ·
   intro r' hq
   subst hq
   exact aq h
  rintro ⟨⟩ rfl
  refine am ⟨tab [(2, .loc 0 0 a0.length)], ac [(0, .lst true (some 8) (List.map (eA8 (D.int .u16)) a0))], 1⟩ ?_ ?_
  ·
   iterate 2 refine q1 _ ?_
   exact nR [0]
  have hh := aq h
  subst hh
  refine aV ?_
  exact ⟨.inr rfl, _, rfl, rfl, dh.sub ⟨rfl, trivial⟩, rfl⟩
theorem sF {a0 : (List (A8 Int))} {r : (List (A8 Int))} (h : ls a0 = some r) : bY Try.prog 101 [.d (eL (some 8) (eA8 (D.int .u16)) a0)] (ac []) 0 (.loc 0 0 r.length) (ac [(0, .lst true (some 8) (List.map (eA8 (D.int .u16)) r))]) 1 := by
 refine bY.introN (bl := []) (bl' := [(0, .lst true (some 8) (List.map (eA8 (D.int .u16)) r))]) xZ (show 1 ≤ 9 by decide) rfl ?_
 refine bb (s0 := ⟨tab [(0, .d (eL (some 8) (eA8 (D.int .u16)) a0))], ac [], 0⟩) (nr []) ?_
 refine am ⟨tab [(0, .d (eL (some 8) (eA8 (D.int .u16)) a0))], ac [], 0⟩ ?_ ?_
 ·
  refine q1 _ ?_
  exact nR []
 obtain ⟨r1, hr1, h⟩ := ay h
 refine am ⟨tab [(0, .loc 0 0 r1.length)], ac [(0, .lst true (some 8) (List.map (eA8 (D.int .u16)) r1))], 1⟩ ?_ ?_
 ·
  refine q1 _ ?_
  refine gF (v := .loc 0 0 r1.length) (σ' := (al (ac []) 0 (some (.lst true (some 8) (List.map (eA8 (D.int .u16)) r1))))) (n' := 1) (gG [] (ma hr1) (show 0 ≤ 1 by decide) (by decide) (show ∀ i ∈ [], i < 0 by decide) (d8 (show 0 < 1 by decide) fz) (bo.c (.d _) bo.nil0) SN.nil0) (show 0 ≤ 1 by decide) ?_
  refine q1 _ ?_
  exact nR [0]
 obtain ⟨r2, hr2, h⟩ := ay h
 refine am ⟨tab [(0, .loc 0 0 r2.length)], ac [(0, .lst true (some 8) (List.map (eA8 (D.int .u16)) r2))], 1⟩ ?_ ?_
 ·
  refine q1 _ ?_
  refine gF (v := .d (.tup [])) (σ' := (al (al (ac [(0, .lst true (some 8) (List.map (eA8 (D.int .u16)) r1))]) 0 none) 0 (some (.lst true (some 8) (List.map (eA8 (D.int .u16)) r2))))) (n' := 1) (gG [0] (zO ⟨112, [], rfl, fun _ _ _ h => zN h⟩ hr2) (show 1 ≤ 1 by decide) (by decide) (show ∀ i ∈ [0], i < 1 by decide) (d8 (show 0 < 1 by decide) fz) (bo.c (.lc 0) (bo.c (.d _) bo.nil0)) (SN.c (show 0 < 1 by decide) rfl (.lst _ _ _) SN.nil0)) (show 1 ≤ 1 by decide) ?_
  exact aZ.nil' (nm [0] ⟨.le (id := 0) (xb hr2).symm (show 0 < 1 by decide), trivial⟩ ⟨⟨show 0 < 1 by decide, _, rfl, .lst _ _ _⟩, trivial⟩)
 obtain ⟨r3, hr3, h⟩ := ay h
 refine am ⟨tab [(2, .loc 0 0 r3.length)], ac [(0, .lst true (some 8) (List.map (eA8 (D.int .u16)) r3))], 1⟩ ?_ ?_
 ·
  refine q1 _ ?_
  refine gF (v := .loc 0 0 r3.length) (σ' := (al (al (ac [(0, .lst true (some 8) (List.map (eA8 (D.int .u16)) r2))]) 0 none) 0 (some (.lst true (some 8) (List.map (eA8 (D.int .u16)) r3))))) (n' := 1) (gG [0] (zP hr3) (show 1 ≤ 1 by decide) (by decide) (show ∀ i ∈ [0], i < 1 by decide) (d8 (show 0 < 1 by decide) fz) (bo.c (.lc 0) bo.nil0) (SN.c (show 0 < 1 by decide) rfl (.lst _ _ _) SN.nil0)) (show 1 ≤ 1 by decide) ?_
  refine q1 _ ?_
  exact nR [0]
 have hh := aq h
 subst hh
 refine aV ?_
 exact ⟨.inr rfl, _, rfl, rfl, dh.sub ⟨rfl, trivial⟩, rfl⟩
theorem sG {a0 : (List (A8 Int))} {r : (List (A8 Int))} (h : iz a0 = some (some r)) : bY Try.prog 79 [.d (eL (some 8) (eA8 (D.int .u16)) a0)] (ac []) 0 (.loc 0 0 r.length) (ac [(0, .lst true (some 8) (List.map (eA8 (D.int .u16)) r))]) 1 := by
 refine bY.introN (bl := []) (bl' := [(0, .lst true (some 8) (List.map (eA8 (D.int .u16)) r))]) yb (show 1 ≤ 11 by decide) rfl ?_
 refine bb (s0 := ⟨tab [(0, .d (eL (some 8) (eA8 (D.int .u16)) a0))], ac [], 0⟩) (nr []) ?_
 refine am ⟨tab [(0, .d (eL (some 8) (eA8 (D.int .u16)) a0))], ac [], 0⟩ ?_ ?_
 ·
  refine q1 _ ?_
  exact nR []
 obtain ⟨r1, hr1, h⟩ := ay h
 refine am ⟨tab [(0, .loc 0 0 r1.length)], ac [(0, .lst true (some 8) (List.map (eA8 (D.int .u16)) r1))], 1⟩ ?_ ?_
 ·
  refine q1 _ ?_
  refine gF (v := .loc 0 0 r1.length) (σ' := (al (ac []) 0 (some (.lst true (some 8) (List.map (eA8 (D.int .u16)) r1))))) (n' := 1) (gG [] (sF hr1) (show 0 ≤ 1 by decide) (by decide) (show ∀ i ∈ [], i < 0 by decide) (d8 (show 0 < 1 by decide) fz) (bo.c (.d _) bo.nil0) SN.nil0) (show 0 ≤ 1 by decide) ?_
  refine q1 _ ?_
  exact nR [0]
 refine aG ?_
 refine am ⟨tab [(0, .loc 0 0 r1.length), (7, vb (decide ((r1.length : Int) > 64)))], ac [(0, .lst true (some 8) (List.map (eA8 (D.int .u16)) r1))], 1⟩ ?_ ?_
 ·
  iterate 3 refine q1 _ ?_
  exact nR [0]
 by_cases hc2 : decide ((r1.length : Int) > 64) = true
 ·
  replace h := aO hc2 h
  refine aY (t := decide ((r1.length : Int) > 64)) rfl hc2 ?_
  cases h
 ·
  replace h := aP hc2 h
  refine aW (t := decide ((r1.length : Int) > 64)) rfl hc2 ?_
  refine bh ?_
  refine am ⟨tab [(2, .loc 0 0 r1.length)], ac [(0, .lst true (some 8) (List.map (eA8 (D.int .u16)) r1))], 1⟩ ?_ ?_
  ·
   iterate 2 refine q1 _ ?_
   exact nR [0]
  replace h := aq h
  have hh := aq h
  subst hh
  refine aV ?_
  exact ⟨.inr rfl, _, rfl, rfl, dh.sub ⟨rfl, trivial⟩, rfl⟩
theorem sH {a0 : List (A8 Int)} (h : iz a0 = some none) : iG Try.prog 79 [eL (some 8) (eA8 (D.int .u16)) a0] fS := by
 unfold iz at h
 obtain ⟨r, hr, h⟩ := ay h
 have hlen : r.length > 64 := by
  split at h
  ·
   rename_i hc; have := of_decide_eq_true hc; omega
  ·
   cases h
 have hc : PCall Try.prog 101 _ _ := sq (ds := [eL (some 8) (eA8 (D.int .u16)) a0]) (sF hr) (by simp)
 refine ⟨by kernel_rfl, fun A w vs halt hglob hl hrel => ?_⟩
 obtain ⟨v0, rfl⟩ : ∃ v0, vs = #[v0] := by
  have h1 : vs.size = 1 := by simpa using hl.symm
  refine ⟨vs[0], Array.ext (by simp [h1]) fun i h2 h3 => ?_⟩
  have : i = 0 := by omega
  subst this; rfl
 have hcon := hc.2 A w #[v0] halt hglob hl hrel
 obtain ⟨n, hn⟩ : ∃ n, n = r.length := ⟨_, rfl⟩
 have hcon : Calls Try.prog 101 #[v0] w fun e w' => (∃ p cap, e = .returned (.slice p n cap)) ∧ Below w.heap.size w w' := hcon.mono fun e w' ⟨cv, he, hr, hb⟩ => by
  obtain ⟨p, cap, rfl⟩ := xc hr
  exact ⟨⟨p, cap, by rw [he, List.length_map, hn]⟩, hb⟩
 have hn1 : (n : Int) > 64 := by omega
 clear hc hr hlen hn hrel hl h
 go_enter Try.func79, Try.ntmps79
 go_wp2_with (go_at_call 101; refine hcon.mono ?_; rintro e w' ⟨⟨p, cap, rfl⟩, hb⟩)
 have hp : Sem.run Try.prog (Instr.panic (Value.iface 104 (Value.agg #[]))) w' = .halt (.panic (.iface 104 (.agg #[]))) w' := by simp [Instr.panic, go_sem]
 rw [hp]
 simp only [Result.andThen, Oper.upon, Exit.then]
 exact ⟨rfl, rfl, hb⟩
theorem zQ {self : ai → (List Int) → (A8 Int) → Option (Option (List (A8 Int)))} (hself : ∀ (a0 : ai) (a1 : (List Int)) (a2 : (A8 Int)) (r : (Option (List (A8 Int)))), self a0 a1 a2 = some r → dK Try.prog 50 [bN a0, eL none (D.int .u16) a1, eA8 (D.int .u16) a2] (r.map fun r => eL (some 8) (eA8 (D.int .u16)) r) fS) {a0 : ai} {a1 : (List Int)} {a2 : (A8 Int)} {r : (Option (List (A8 Int)))} (h : lw self a0 a1 a2 = some r) : dK Try.prog 50 [bN a0, eL none (D.int .u16) a1, eA8 (D.int .u16) a2] (r.map fun r => eL (some 8) (eA8 (D.int .u16)) r) fS := by
 refine dK.introN yf (show 3 ≤ 108 by decide) ?_
 refine bb (s0 := ⟨tab [(0, vs1 a0), (1, ar a1), (2, .d (eA8 (D.int .u16) a2))], ac [], 0⟩) (nr []) ?_
 refine am ⟨tab [(1, ar a1), (3, bk a0), (5, .d (.cptr (some 8) (eA8 (D.int .u16) a2) 0))], ac [], 0⟩ ?_ ?_
 ·
  iterate 3 refine q1 _ ?_
  exact nR []
 refine aG ?_
 refine am ⟨tab [(1, ar a1), (3, bk a0), (5, .d (.cptr (some 8) (eA8 (D.int .u16) a2) 0)), (17, vi a0.Op)], ac [], 0⟩ ?_ ?_
 ·
  iterate 2 refine q1 _ ?_
  exact nR []
 refine bG ?_
 refine am ⟨tab [(1, ar a1), (3, bk a0), (5, .d (.cptr (some 8) (eA8 (D.int .u16) a2) 0)), (17, vi a0.Op), (18, vb (a0.Op == 1))], ac [], 0⟩ ?_ ?_
 ·
  iterate 2 refine q1 _ ?_
  exact nR []
 by_cases hc1 : (a0.Op == 1) = true
 ·
  replace h := aO hc1 h
  refine aY (t := (a0.Op == 1)) rfl hc1 ?_
  obtain ⟨r2, hr2, h⟩ := ay h
  refine am ⟨tab [(6, .d (eL (some 8) (eA8 (D.int .u16)) r2))], ac [], 0⟩ ?_ ?_
  ·
   refine q1 _ ?_
   refine bC (r := eL (some 8) (eA8 (D.int .u16)) r2) (aF (aF aQ.nil')) (jv hr2) ?_
   refine q1 _ ?_
   exact nR []
  have hh := aq h
  subst hh
  refine aV ?_
  refine dW.ret ?_
  show FQ _ _ _ _
  exact br (.inr rfl) (bg (v := .d (eL (some 8) (eA8 (D.int .u16)) r2)) rfl rfl) (RV.d trivial)
 ·
  replace h := aP hc1 h
  refine aW (t := (a0.Op == 1)) rfl hc1 ?_
  refine am ⟨tab [(1, ar a1), (3, bk a0), (5, .d (.cptr (some 8) (eA8 (D.int .u16) a2) 0)), (17, vi a0.Op), (22, vb (a0.Op == 2))], ac [], 0⟩ ?_ ?_
  ·
   iterate 2 refine q1 _ ?_
   exact nR []
  by_cases hc3 : (a0.Op == 2) = true
  ·
   replace h := aO hc3 h
   refine aY (t := (a0.Op == 2)) rfl hc3 ?_
   obtain ⟨x4, hx4, h⟩ := ay h
   obtain ⟨r5, hr5, h⟩ := ay h
   refine am ⟨tab [(6, .d (eL (some 8) (eA8 (D.int .u16)) r5))], ac [], 0⟩ ?_ ?_
   ·
    iterate 2 refine q1 _ ?_
    refine step (v := .d (.cptr (some 8) (eA8 (D.int .u16) a2) (0 + a0.F.toNat * 1))) (iu (xs := a2.l) hx4 rfl rfl rfl) ?_
    refine step (v := vh x4) (ip rfl (io (e := (D.int .u16)) (xs := a2.l) (pre := []) (post := []) hx4 rfl (by decide))) ?_
    iterate 4 refine q1 _ ?_
    refine bC (r := eL (some 8) (eA8 (D.int .u16)) r5) (aF (aF aQ.nil')) (jv hr5) ?_
    refine q1 _ ?_
    exact nR []
   have hh := aq h
   subst hh
   refine aV ?_
   refine dW.ret ?_
   show FQ _ _ _ _
   exact br (.inr rfl) (bg (v := .d (eL (some 8) (eA8 (D.int .u16)) r5)) rfl rfl) (RV.d trivial)
  ·
   replace h := aP hc3 h
   refine aW (t := (a0.Op == 2)) rfl hc3 ?_
   refine am ⟨tab [(1, ar a1), (3, bk a0), (5, .d (.cptr (some 8) (eA8 (D.int .u16) a2) 0)), (17, vi a0.Op), (33, vb (a0.Op == 3))], ac [], 0⟩ ?_ ?_
   ·
    iterate 2 refine q1 _ ?_
    exact nR []
   by_cases hc6 : (a0.Op == 3) = true
   ·
    replace h := aO hc6 h
    refine aY (t := (a0.Op == 3)) rfl hc6 ?_
    obtain ⟨r7, hr7, h⟩ := ay h
    obtain ⟨r8, hr8, h⟩ := ay h
    refine am ⟨tab [(6, .d (eL (some 8) (eA8 (D.int .u16)) r8))], ac [], 0⟩ ?_ ?_
    ·
     iterate 2 refine q1 _ ?_
     refine bC (r := .bool r7) (aF (aF aQ.nil')) (zJ hr7) ?_
     refine q1 _ ?_
     refine bC (r := eL (some 8) (eA8 (D.int .u16)) r8) (aF (aF aQ.nil')) (jv hr8) ?_
     refine q1 _ ?_
     exact nR []
    have hh := aq h
    subst hh
    refine aV ?_
    refine dW.ret ?_
    show FQ _ _ _ _
    exact br (.inr rfl) (bg (v := .d (eL (some 8) (eA8 (D.int .u16)) r8)) rfl rfl) (RV.d trivial)
   ·
    replace h := aP hc6 h
    refine aW (t := (a0.Op == 3)) rfl hc6 ?_
    refine am ⟨tab [(1, ar a1), (3, bk a0), (5, .d (.cptr (some 8) (eA8 (D.int .u16) a2) 0)), (17, vi a0.Op), (40, vb (a0.Op == 4))], ac [], 0⟩ ?_ ?_
    ·
     iterate 2 refine q1 _ ?_
     exact nR []
    by_cases hc9 : (a0.Op == 4) = true
    ·
     replace h := aO hc9 h
     refine aY (t := (a0.Op == 4)) rfl hc9 ?_
     obtain ⟨x10, hx10, h⟩ := ay h
     rcases i7 h with ⟨hr11, h⟩ | ⟨r11, hr11, h⟩
     ·
      cases h
     obtain ⟨r12, hr12, h⟩ := ay h
     refine am ⟨tab [(6, .d (eL (some 8) (eA8 (D.int .u16)) r12))], ac [], 0⟩ ?_ ?_
     ·
      iterate 2 refine q1 _ ?_
      refine step (v := bk x10) (gW (xs := a0.Kids) (e := aN) hx10 rfl rfl (dX _)) ?_
      iterate 3 refine q1 _ ?_
      refine bC (r := eL (some 8) (eA8 (D.int .u16)) r11) (aF (aF (aF aQ.nil'))) (dK.ok <| hself _ _ _ _ hr11) ?_
      refine step (v := vi (r11.length : Int)) (bF (xs := r11) (e := (eA8 (D.int .u16))) rfl) ?_
      iterate 2 refine q1 _ ?_
      refine bC (r := eL (some 8) (eA8 (D.int .u16)) r12) (aF (aF aQ.nil')) (jv hr12) ?_
      refine q1 _ ?_
      exact nR []
     have hh := aq h
     subst hh
     refine aV ?_
     refine dW.ret ?_
     show FQ _ _ _ _
     exact br (.inr rfl) (bg (v := .d (eL (some 8) (eA8 (D.int .u16)) r12)) rfl rfl) (RV.d trivial)
    ·
     replace h := aP hc9 h
     refine aW (t := (a0.Op == 4)) rfl hc9 ?_
     refine am ⟨tab [(1, ar a1), (3, bk a0), (5, .d (.cptr (some 8) (eA8 (D.int .u16) a2) 0)), (17, vi a0.Op), (53, vb (a0.Op == 5))], ac [], 0⟩ ?_ ?_
     ·
      iterate 2 refine q1 _ ?_
      exact nR []
     by_cases hc13 : (a0.Op == 5) = true
     ·
      replace h := aO hc13 h
      refine aY (t := (a0.Op == 5)) rfl hc13 ?_
      obtain ⟨r14, hr14, h⟩ := ay h
      obtain ⟨r15, hr15, h⟩ := ay h
      refine am ⟨tab [(6, .d (eL (some 8) (eA8 (D.int .u16)) r15))], ac [], 0⟩ ?_ ?_
      ·
       iterate 5 refine q1 _ ?_
       refine bC (r := eA8 (D.int .u16) r14) (aF (aF (aF aQ.nil'))) (zL hr14) ?_
       refine bC (r := eL (some 8) (eA8 (D.int .u16)) r15) (aF (aF aQ.nil')) (jv hr15) ?_
       refine q1 _ ?_
       exact nR []
      have hh := aq h
      subst hh
      refine aV ?_
      refine dW.ret ?_
      show FQ _ _ _ _
      exact br (.inr rfl) (bg (v := .d (eL (some 8) (eA8 (D.int .u16)) r15)) rfl rfl) (RV.d trivial)
     ·
      replace h := aP hc13 h
      refine aW (t := (a0.Op == 5)) rfl hc13 ?_
      refine am ⟨tab [(1, ar a1), (3, bk a0), (5, .d (.cptr (some 8) (eA8 (D.int .u16) a2) 0)), (17, vi a0.Op), (62, vb (a0.Op == 7))], ac [], 0⟩ ?_ ?_
      ·
       iterate 2 refine q1 _ ?_
       exact nR []
      by_cases hc16 : (a0.Op == 7) = true
      ·
       replace h := aO hc16 h
       refine aY (t := (a0.Op == 7)) rfl hc16 ?_
       refine am ⟨tab [(1, ar a1), (3, bk a0), (5, .d (.cptr (some 8) (eA8 (D.int .u16) a2) 0)), (7, .d (.nils))], ac [], 0⟩ ?_ ?_
       ·
        refine q1 _ ?_
        exact nR []
       refine aG ?_
       refine am ⟨tab [(1, ar a1), (5, .d (.cptr (some 8) (eA8 (D.int .u16) a2) 0)), (7, .d (.nils)), (65, ax a0.Kids), (66, vi (a0.Kids.length : Int)), (67, vi 0)], ac [], 0⟩ ?_ ?_
       ·
        iterate 2 refine q1 _ ?_
        refine step (v := vi (a0.Kids.length : Int)) (bF (xs := a0.Kids) (e := aN) rfl) ?_
        refine q1 _ ?_
        exact nR []
       obtain ⟨q29, hl, h⟩ := ay h
       refine bb (s0 := ⟨tab [(1, ar a1), (5, .d (.cptr (some 8) (eA8 (D.int .u16) a2) 0)), (7, .loc 0 0 (([] : List (A8 Int)).length)), (65, ax a0.Kids), (66, vi (a0.Kids.length : Int)), (67, vi 0)], ac [(0, .lst false (some 8) (List.map (eA8 (D.int .u16)) ([] : List (A8 Int))))], 1⟩) (bO.trans (s2 := ⟨tab [(1, ar a1), (5, .d (.cptr (some 8) (eA8 (D.int .u16) a2) 0)), (7, .loc 0 0 (([] : List (A8 Int)).length)), (65, ax a0.Kids), (66, vi (a0.Kids.length : Int)), (67, vi 0)], ac [(0, .lst false (some 8) (List.map (eA8 (D.int .u16)) ([] : List (A8 Int))))], 1⟩) (jX 7 false (some 8) rfl) (nr [0])) ?_
       refine bG ?_
       refine dp (cQ (a0.Kids.length : Int)) (fun (i18 : Int) (qq : (List (A8 Int))) => ⟨tab [(1, ar a1), (5, .d (.cptr (some 8) (eA8 (D.int .u16) a2) 0)), (7, .loc 0 0 qq.length), (65, ax a0.Kids), (66, vi (a0.Kids.length : Int)), (67, vi i18)], ac [(0, .lst false (some 8) (List.map (eA8 (D.int .u16)) qq))], 1⟩) 1 (fun (qq : (List (A8 Int))) => ⟨tab [(7, .loc 0 0 qq.length)], ac [(0, .lst false (some 8) (List.map (eA8 (D.int .u16)) qq))], 1⟩) bK cR (r := r) hl (by unfold bK; omega) ?_ ?_ ?_ ?_
       ·
        rintro i18 l17 xr23 hinv21 hgo20 h
        show aI _ _ _ _ _ ⟨tab [(1, ar a1), (5, .d (.cptr (some 8) (eA8 (D.int .u16) a2) 0)), (7, .loc 0 0 l17.length), (65, ax a0.Kids), (66, vi (a0.Kids.length : Int)), (67, vi i18)], ac [(0, .lst false (some 8) (List.map (eA8 (D.int .u16)) l17))], 1⟩
        have hc22 : decide (i18 < (a0.Kids.length : Int)) = true := decide_eq_true hgo20
        refine am ⟨tab [(1, ar a1), (5, .d (.cptr (some 8) (eA8 (D.int .u16) a2) 0)), (7, .loc 0 0 l17.length), (65, ax a0.Kids), (66, vi (a0.Kids.length : Int)), (67, vi i18), (68, vb (decide (i18 < (a0.Kids.length : Int))))], ac [(0, .lst false (some 8) (List.map (eA8 (D.int .u16)) l17))], 1⟩ ?_ ?_
        ·
         refine q1 _ ?_
         exact nR [0]
        refine c8 66 rfl fun hB19 => ?_
        refine aG ?_
        refine aY (t := decide (i18 < (a0.Kids.length : Int))) rfl hc22 ?_
        refine bh ?_
        refine aG ?_
        refine bG ?_
        obtain ⟨x24, hx24, h⟩ := ay h
        refine am ⟨tab [(1, ar a1), (5, .d (.cptr (some 8) (eA8 (D.int .u16) a2) 0)), (7, .loc 0 0 l17.length), (9, .ptr 1 0 0), (65, ax a0.Kids), (66, vi (a0.Kids.length : Int)), (67, vi i18)], ac [(0, .lst false (some 8) (List.map (eA8 (D.int .u16)) l17)), (1, cK x24)], 2⟩ ?_ ?_
        ·
         refine step (v := bk x24) (gW (xs := a0.Kids) (e := aN) hx24 rfl rfl (dX _)) ?_
         refine q1 _ ?_
         refine step (v := .ptr 1 0 0) (σ' := (al (ac [(0, .lst false (some 8) (List.map (eA8 (D.int .u16)) l17))]) 1 (some (bz)))) (n' := 2) rfl ?_
         refine step (v := V.undef) (σ' := (al (al (ac [(0, .lst false (some 8) (List.map (eA8 (D.int .u16)) l17))]) 1 (some (bz))) 1 (some (cK x24)))) (n' := 2) rfl ?_
         exact nR [0, 1]
        rcases i7 h with ⟨hr25, h⟩ | ⟨r25, hr25, h⟩
        ·
         obtain ⟨r28, kr28, hr⟩ := cq (o := some none) (g := Br.ret) h
         subst hr
         have h := kr28
         have hh := aq h
         subst hh
         refine aI.opsP (ch := fS) 4 rfl ?_
         refine q1 _ ?_
         refine step (v := vs1 x24) (cb (ds := [.int .i64 x24.Op, .int .i64 x24.F, .int .u16 x24.N, eL (some 4) aN x24.Kids]) rfl rfl (show 4 ≤ 4 by decide) rfl) ?_
         iterate 2 refine q1 _ ?_
         refine aZ.nil' ⟨_, (aF (aF (aF aQ.nil'))), (dK.pan <| hself _ _ _ _ hr25), ?_⟩
         refine And.intro (fun hn => nomatch hn) ?_
         intro hq
         have hq := hq.symm
         subst hq
         exact dW.pan
        obtain ⟨l26, hl26, h⟩ := ay h
        rcases i7 h with ⟨hr27, h⟩ | ⟨r27, hr27, h⟩
        ·
         obtain ⟨r28, kr28, hr⟩ := cq (o := some none) (g := Br.ret) h
         subst hr
         have h := kr28
         have hh := aq h
         subst hh
         refine aI.opsP (ch := fS) 6 rfl ?_
         refine q1 _ ?_
         refine step (v := vs1 x24) (cb (ds := [.int .i64 x24.Op, .int .i64 x24.F, .int .u16 x24.N, eL (some 4) aN x24.Kids]) rfl rfl (show 4 ≤ 4 by decide) rfl) ?_
         iterate 2 refine q1 _ ?_
         refine bC (r := eL (some 8) (eA8 (D.int .u16)) r25) (aF (aF (aF aQ.nil'))) (dK.ok <| hself _ _ _ _ hr25) ?_
         refine step (v := .loc 2 0 l26.length) (σ' := (al (al (ac [(0, .lst false (some 8) (List.map (eA8 (D.int .u16)) l17)), (1, cK x24)]) 0 none) 2 (some (.lst false (some 8) (List.map (eA8 (D.int .u16)) l26))))) (n' := 3) (eP (xs := l17) (ys := r25) (e := (eA8 (D.int .u16))) hl26 rfl rfl rfl (fc (xs := r25) (e := (eA8 (D.int .u16))) rfl)) ?_
         refine aZ.nil' ⟨_, (m8 (xs := l26) (e := (eA8 (D.int .u16))) rfl rfl aQ.nil'), (sH hr27), ?_⟩
         refine And.intro (fun hn => nomatch hn) ?_
         intro hq
         have hq := hq.symm
         subst hq
         exact dW.pan
        refine bU ⟨tab [(1, ar a1), (5, .d (.cptr (some 8) (eA8 (D.int .u16) a2) 0)), (7, .loc 0 0 r27.length), (65, ax a0.Kids), (66, vi (a0.Kids.length : Int)), (67, vi i18)], ac [(0, .lst false (some 8) (List.map (eA8 (D.int .u16)) r27))], 1⟩ ?_ ?_
        ·
         refine q1 _ ?_
         refine step (v := vs1 x24) (cb (ds := [.int .i64 x24.Op, .int .i64 x24.F, .int .u16 x24.N, eL (some 4) aN x24.Kids]) rfl rfl (show 4 ≤ 4 by decide) rfl) ?_
         iterate 2 refine q1 _ ?_
         refine bC (r := eL (some 8) (eA8 (D.int .u16)) r25) (aF (aF (aF aQ.nil'))) (dK.ok <| hself _ _ _ _ hr25) ?_
         refine step (v := .loc 2 0 l26.length) (σ' := (al (al (ac [(0, .lst false (some 8) (List.map (eA8 (D.int .u16)) l17)), (1, cK x24)]) 0 none) 2 (some (.lst false (some 8) (List.map (eA8 (D.int .u16)) l26))))) (n' := 3) (eP (xs := l17) (ys := r25) (e := (eA8 (D.int .u16))) hl26 rfl rfl rfl (fc (xs := r25) (e := (eA8 (D.int .u16))) rfl)) ?_
         refine gF (v := .loc 3 0 r27.length) (σ' := (al (al (al (ac [(0, .lst false (some 8) (List.map (eA8 (D.int .u16)) l17)), (1, cK x24)]) 0 none) 2 (some (.lst false (some 8) (List.map (eA8 (D.int .u16)) l26)))) 3 (some (.lst false (some 8) (List.map (eA8 (D.int .u16)) r27))))) (n' := 4) (bY.sees (gG [] (bY.frz (sG hr27)) (show 0 ≤ 1 by decide) (by decide) (show ∀ i ∈ [], i < 3 by decide) (d8 (show 0 < 1 by decide) fz) (bo.c (.d _) bo.nil0) SN.nil0) ⟨.inr ⟨_, (nc (xs := l26) (e := (eA8 (D.int .u16))) rfl rfl), rfl⟩, trivial⟩) (show 3 ≤ 4 by decide) ?_
         refine q1 _ ?_
         exact nR [3]
        have hh := aq h
        subst hh
        refine bU ⟨tab [(1, ar a1), (5, .d (.cptr (some 8) (eA8 (D.int .u16) a2) 0)), (7, .loc 0 0 r27.length), (65, ax a0.Kids), (66, vi (a0.Kids.length : Int)), (67, vi (i18 + 1))], ac [(0, .lst false (some 8) (List.map (eA8 (D.int .u16)) r27))], 1⟩ ?_ ?_
        ·
         refine step (v := vi (i18 + 1)) (cL (cM hinv21 hgo20 hB19) rfl rfl) ?_
         refine q1 _ ?_
         exact nR [0]
        exact And.intro rfl rfl
       ·
        rintro i18 l17 hinv21 hgo20
        show aI _ _ _ _ _ ⟨tab [(1, ar a1), (5, .d (.cptr (some 8) (eA8 (D.int .u16) a2) 0)), (7, .loc 0 0 l17.length), (65, ax a0.Kids), (66, vi (a0.Kids.length : Int)), (67, vi i18)], ac [(0, .lst false (some 8) (List.map (eA8 (D.int .u16)) l17))], 1⟩
        have hc22 : ¬ (decide (i18 < (a0.Kids.length : Int)) = true) := fun hq => hgo20 (of_decide_eq_true hq)
        refine am ⟨tab [(1, ar a1), (5, .d (.cptr (some 8) (eA8 (D.int .u16) a2) 0)), (7, .loc 0 0 l17.length), (65, ax a0.Kids), (66, vi (a0.Kids.length : Int)), (67, vi i18), (68, vb (decide (i18 < (a0.Kids.length : Int))))], ac [(0, .lst false (some 8) (List.map (eA8 (D.int .u16)) l17))], 1⟩ ?_ ?_
        ·
         refine q1 _ ?_
         exact nR [0]
        refine aG ?_
        refine aW (t := decide (i18 < (a0.Kids.length : Int))) rfl hc22 ?_
        refine bb (s0 := ⟨tab [(7, .loc 0 0 l17.length)], ac [(0, .lst false (some 8) (List.map (eA8 (D.int .u16)) l17))], 1⟩) (nr [0]) ?_
        refine cI ?_
        exact And.intro rfl rfl
       ·
        intro r' hq
        subst hq
        exact aq h
       rintro z28 rfl
       refine am ⟨tab [(6, .loc 0 0 z28.length)], ac [(0, .lst false (some 8) (List.map (eA8 (D.int .u16)) z28))], 1⟩ ?_ ?_
       ·
        iterate 2 refine q1 _ ?_
        exact nR [0]
       have hh := aq h
       subst hh
       refine aV ?_
       refine dW.ret ?_
       show FQ _ _ _ _
       exact br (.inr rfl) (bg (v := .loc 0 0 z28.length) rfl rfl) (RV.loc (xs := z28) (e := (eA8 (D.int .u16))) rfl rfl trivial)
      ·
       replace h := aP hc16 h
       refine aW (t := (a0.Op == 7)) rfl hc16 ?_
       refine am ⟨tab [(1, ar a1), (3, bk a0), (5, .d (.cptr (some 8) (eA8 (D.int .u16) a2) 0)), (80, vb (a0.Op == 6))], ac [], 0⟩ ?_ ?_
       ·
        iterate 2 refine q1 _ ?_
        exact nR []
       by_cases hc30 : (a0.Op == 6) = true
       ·
        replace h := aO hc30 h
        refine aY (t := (a0.Op == 6)) rfl hc30 ?_
        obtain ⟨r31, hr31, h⟩ := ay h
        refine am ⟨tab [(1, ar a1), (3, bk a0), (10, .d (eL (some 8) (eA8 (D.int .u16)) r31))], ac [], 0⟩ ?_ ?_
        ·
         refine q1 _ ?_
         refine bC (r := eL (some 8) (eA8 (D.int .u16)) r31) (aF (aF aQ.nil')) (jv hr31) ?_
         refine q1 _ ?_
         exact nR []
        refine aG ?_
        refine am ⟨tab [(1, ar a1), (10, .d (eL (some 8) (eA8 (D.int .u16)) r31)), (85, ax a0.Kids), (86, vi (a0.Kids.length : Int)), (87, vi 0)], ac [], 0⟩ ?_ ?_
        ·
         iterate 2 refine q1 _ ?_
         refine step (v := vi (a0.Kids.length : Int)) (bF (xs := a0.Kids) (e := aN) rfl) ?_
         refine q1 _ ?_
         exact nR []
        obtain ⟨q54, hl, h⟩ := ay h
        refine bG ?_
        refine dp (cQ (a0.Kids.length : Int)) (fun (i33 : Int) (qq : (List (A8 Int))) => ⟨tab [(1, ar a1), (10, .d (eL (some 8) (eA8 (D.int .u16)) qq)), (85, ax a0.Kids), (86, vi (a0.Kids.length : Int)), (87, vi i33)], ac [], 0⟩) 3 (fun (qq : (List (A8 Int))) => ⟨tab [(10, .d (eL (some 8) (eA8 (D.int .u16)) qq))], ac [], 0⟩) bK cR (r := r) hl (by unfold bK; omega) ?_ ?_ ?_ ?_
        ·
         rintro i33 y32 xr38 hinv36 hgo35 h
         show aI _ _ _ _ _ ⟨tab [(1, ar a1), (10, .d (eL (some 8) (eA8 (D.int .u16)) y32)), (85, ax a0.Kids), (86, vi (a0.Kids.length : Int)), (87, vi i33)], ac [], 0⟩
         have hc37 : decide (i33 < (a0.Kids.length : Int)) = true := decide_eq_true hgo35
         refine am ⟨tab [(1, ar a1), (10, .d (eL (some 8) (eA8 (D.int .u16)) y32)), (85, ax a0.Kids), (86, vi (a0.Kids.length : Int)), (87, vi i33), (88, vb (decide (i33 < (a0.Kids.length : Int))))], ac [], 0⟩ ?_ ?_
         ·
          refine q1 _ ?_
          exact nR []
         refine c8 86 rfl fun hB34 => ?_
         refine aG ?_
         refine aY (t := decide (i33 < (a0.Kids.length : Int))) rfl hc37 ?_
         refine bh ?_
         refine aG ?_
         refine bG ?_
         obtain ⟨x39, hx39, h⟩ := ay h
         refine am ⟨tab [(1, ar a1), (10, .d (eL (some 8) (eA8 (D.int .u16)) y32)), (12, .ptr 0 0 0), (85, ax a0.Kids), (86, vi (a0.Kids.length : Int)), (87, vi i33)], ac [(0, cK x39)], 1⟩ ?_ ?_
         ·
          refine step (v := bk x39) (gW (xs := a0.Kids) (e := aN) hx39 rfl rfl (dX _)) ?_
          refine q1 _ ?_
          refine step (v := .ptr 0 0 0) (σ' := (al (ac []) 0 (some (bz)))) (n' := 1) rfl ?_
          refine step (v := V.undef) (σ' := (al (al (ac []) 0 (some (bz))) 0 (some (cK x39)))) (n' := 1) rfl ?_
          exact nR [0]
         refine am ⟨tab [(1, ar a1), (10, .d (eL (some 8) (eA8 (D.int .u16)) y32)), (12, .ptr 0 0 0), (13, .d (.nils)), (85, ax a0.Kids), (86, vi (a0.Kids.length : Int)), (87, vi i33)], ac [(0, cK x39)], 1⟩ ?_ ?_
         ·
          refine q1 _ ?_
          exact nR [0]
         refine aG ?_
         refine am ⟨tab [(1, ar a1), (12, .ptr 0 0 0), (13, .d (.nils)), (85, ax a0.Kids), (86, vi (a0.Kids.length : Int)), (87, vi i33), (91, .d (eL (some 8) (eA8 (D.int .u16)) y32)), (92, vi (y32.length : Int)), (93, vi 0)], ac [(0, cK x39)], 1⟩ ?_ ?_
         ·
          refine q1 _ ?_
          refine step (v := vi (y32.length : Int)) (bF (xs := y32) (e := (eA8 (D.int .u16))) rfl) ?_
          refine q1 _ ?_
          exact nR [0]
         obtain ⟨q52, hl, h⟩ := ay h
         refine bb (s0 := ⟨tab [(1, ar a1), (12, .ptr 0 0 0), (13, .loc 1 0 (([] : List (A8 Int)).length)), (85, ax a0.Kids), (86, vi (a0.Kids.length : Int)), (87, vi i33), (91, .d (eL (some 8) (eA8 (D.int .u16)) y32)), (92, vi (y32.length : Int)), (93, vi 0)], ac [(0, cK x39), (1, .lst false (some 8) (List.map (eA8 (D.int .u16)) ([] : List (A8 Int))))], 2⟩) (bO.trans (s2 := ⟨tab [(1, ar a1), (12, .ptr 0 0 0), (13, .loc 1 0 (([] : List (A8 Int)).length)), (85, ax a0.Kids), (86, vi (a0.Kids.length : Int)), (87, vi i33), (91, .d (eL (some 8) (eA8 (D.int .u16)) y32)), (92, vi (y32.length : Int)), (93, vi 0)], ac [(0, cK x39), (1, .lst false (some 8) (List.map (eA8 (D.int .u16)) ([] : List (A8 Int))))], 2⟩) (jX 13 false (some 8) rfl) (nr [0, 1])) ?_
         refine bG ?_
         refine dp (cQ (y32.length : Int)) (fun (i41 : Int) (qq : (List (A8 Int))) => ⟨tab [(1, ar a1), (12, .ptr 0 0 0), (13, .loc 1 0 qq.length), (85, ax a0.Kids), (86, vi (a0.Kids.length : Int)), (87, vi i33), (91, .d (eL (some 8) (eA8 (D.int .u16)) y32)), (92, vi (y32.length : Int)), (93, vi i41)], ac [(0, cK x39), (1, .lst false (some 8) (List.map (eA8 (D.int .u16)) qq))], 2⟩) 5 (fun (qq : (List (A8 Int))) => ⟨tab [(1, ar a1), (13, .loc 0 0 qq.length), (85, ax a0.Kids), (86, vi (a0.Kids.length : Int)), (87, vi i33)], ac [(0, .lst false (some 8) (List.map (eA8 (D.int .u16)) qq))], 1⟩) bK cR (r := xr38) hl (by unfold bK; omega) ?_ ?_ ?_ ?_
         ·
          rintro i41 l40 xr46 hinv44 hgo43 h
          show aI _ _ _ _ _ ⟨tab [(1, ar a1), (12, .ptr 0 0 0), (13, .loc 1 0 l40.length), (85, ax a0.Kids), (86, vi (a0.Kids.length : Int)), (87, vi i33), (91, .d (eL (some 8) (eA8 (D.int .u16)) y32)), (92, vi (y32.length : Int)), (93, vi i41)], ac [(0, cK x39), (1, .lst false (some 8) (List.map (eA8 (D.int .u16)) l40))], 2⟩
          have hc45 : decide (i41 < (y32.length : Int)) = true := decide_eq_true hgo43
          refine am ⟨tab [(1, ar a1), (12, .ptr 0 0 0), (13, .loc 1 0 l40.length), (85, ax a0.Kids), (86, vi (a0.Kids.length : Int)), (87, vi i33), (91, .d (eL (some 8) (eA8 (D.int .u16)) y32)), (92, vi (y32.length : Int)), (93, vi i41), (94, vb (decide (i41 < (y32.length : Int))))], ac [(0, cK x39), (1, .lst false (some 8) (List.map (eA8 (D.int .u16)) l40))], 2⟩ ?_ ?_
          ·
           refine q1 _ ?_
           exact nR [0, 1]
          refine c8 92 rfl fun hB42 => ?_
          refine aG ?_
          refine aY (t := decide (i41 < (y32.length : Int))) rfl hc45 ?_
          refine bh ?_
          refine aG ?_
          refine bG ?_
          obtain ⟨x47, hx47, h⟩ := ay h
          refine am ⟨tab [(1, ar a1), (12, .ptr 0 0 0), (13, .loc 1 0 l40.length), (15, .ptr 2 0 0), (85, ax a0.Kids), (86, vi (a0.Kids.length : Int)), (87, vi i33), (91, .d (eL (some 8) (eA8 (D.int .u16)) y32)), (92, vi (y32.length : Int)), (93, vi i41)], ac [(0, cK x39), (1, .lst false (some 8) (List.map (eA8 (D.int .u16)) l40)), (2, .var [vh x47.a0, vh x47.a1, vh x47.a2, vh x47.a3, vh x47.a4, vh x47.a5, vh x47.a6, vh x47.a7])], 3⟩ ?_ ?_
          ·
           refine step (v := .d (.cptr (some 8) (eA8 (D.int .u16) x47) 0)) (cl (xs := y32) (e := (eA8 (D.int .u16))) hx47 rfl rfl) ?_
           refine q1 _ ?_
           refine step (v := .ptr 2 0 0) (σ' := (al (ac [(0, cK x39), (1, .lst false (some 8) (List.map (eA8 (D.int .u16)) l40))]) 2 (some (ce)))) (n' := 3) rfl ?_
           refine step (v := V.undef) (σ' := (al (al (ac [(0, cK x39), (1, .lst false (some 8) (List.map (eA8 (D.int .u16)) l40))]) 2 (some (ce))) 2 (some (.var [vh x47.a0, vh x47.a1, vh x47.a2, vh x47.a3, vh x47.a4, vh x47.a5, vh x47.a6, vh x47.a7])))) (n' := 3) rfl ?_
           exact nR [0, 1, 2]
          rcases i7 h with ⟨hr48, h⟩ | ⟨r48, hr48, h⟩
          ·
           obtain ⟨r50, kr50, hr⟩ := cq (o := some (Br.ret none)) (g := Br.ret) h
           subst hr
           have h := kr50
           obtain ⟨r51, kr51, hr⟩ := cq (o := some none) (g := Br.ret) h
           subst hr
           have h := kr51
           have hh := aq h
           subst hh
           refine aI.opsP (ch := fS) 4 rfl ?_
           refine q1 _ ?_
           refine step (v := vs1 x39) (cb (ds := [.int .i64 x39.Op, .int .i64 x39.F, .int .u16 x39.N, eL (some 4) aN x39.Kids]) rfl rfl (show 4 ≤ 4 by decide) rfl) ?_
           refine q1 _ ?_
           refine step (v := .d (eA8 (D.int .u16) x47)) (cb (ds := [.int .u16 x47.a0, .int .u16 x47.a1, .int .u16 x47.a2, .int .u16 x47.a3, .int .u16 x47.a4, .int .u16 x47.a5, .int .u16 x47.a6, .int .u16 x47.a7]) rfl rfl (show 8 ≤ 8 by decide) rfl) ?_
           refine aZ.nil' ⟨_, (aF (aF (aF aQ.nil'))), (dK.pan <| hself _ _ _ _ hr48), ?_⟩
           refine And.intro (fun hn => nomatch hn) ?_
           intro hq
           have hq := hq.symm
           subst hq
           refine And.intro (fun hn => nomatch hn) ?_
           intro hq
           have hq := hq.symm
           subst hq
           exact dW.pan
          obtain ⟨l49, hl49, h⟩ := ay h
          refine bU ⟨tab [(1, ar a1), (12, .ptr 0 0 0), (13, .loc 1 0 l49.length), (85, ax a0.Kids), (86, vi (a0.Kids.length : Int)), (87, vi i33), (91, .d (eL (some 8) (eA8 (D.int .u16)) y32)), (92, vi (y32.length : Int)), (93, vi i41)], ac [(0, cK x39), (1, .lst false (some 8) (List.map (eA8 (D.int .u16)) l49))], 2⟩ ?_ ?_
          ·
           refine q1 _ ?_
           refine step (v := vs1 x39) (cb (ds := [.int .i64 x39.Op, .int .i64 x39.F, .int .u16 x39.N, eL (some 4) aN x39.Kids]) rfl rfl (show 4 ≤ 4 by decide) rfl) ?_
           refine q1 _ ?_
           refine step (v := .d (eA8 (D.int .u16) x47)) (cb (ds := [.int .u16 x47.a0, .int .u16 x47.a1, .int .u16 x47.a2, .int .u16 x47.a3, .int .u16 x47.a4, .int .u16 x47.a5, .int .u16 x47.a6, .int .u16 x47.a7]) rfl rfl (show 8 ≤ 8 by decide) rfl) ?_
           refine bC (r := eL (some 8) (eA8 (D.int .u16)) r48) (aF (aF (aF aQ.nil'))) (dK.ok <| hself _ _ _ _ hr48) ?_
           refine step (v := .loc 3 0 l49.length) (σ' := (al (al (ac [(0, cK x39), (1, .lst false (some 8) (List.map (eA8 (D.int .u16)) l40)), (2, .var [vh x47.a0, vh x47.a1, vh x47.a2, vh x47.a3, vh x47.a4, vh x47.a5, vh x47.a6, vh x47.a7])]) 1 none) 3 (some (.lst false (some 8) (List.map (eA8 (D.int .u16)) l49))))) (n' := 4) (eP (xs := l40) (ys := r48) (e := (eA8 (D.int .u16))) hl49 rfl rfl rfl (fc (xs := r48) (e := (eA8 (D.int .u16))) rfl)) ?_
           refine q1 _ ?_
           exact nR [0, 3]
          have hh := aq h
          subst hh
          refine bU ⟨tab [(1, ar a1), (12, .ptr 0 0 0), (13, .loc 1 0 l49.length), (85, ax a0.Kids), (86, vi (a0.Kids.length : Int)), (87, vi i33), (91, .d (eL (some 8) (eA8 (D.int .u16)) y32)), (92, vi (y32.length : Int)), (93, vi (i41 + 1))], ac [(0, cK x39), (1, .lst false (some 8) (List.map (eA8 (D.int .u16)) l49))], 2⟩ ?_ ?_
          ·
           refine step (v := vi (i41 + 1)) (cL (cM hinv44 hgo43 hB42) rfl rfl) ?_
           refine q1 _ ?_
           exact nR [0, 1]
          exact And.intro rfl rfl
         ·
          rintro i41 l40 hinv44 hgo43
          show aI _ _ _ _ _ ⟨tab [(1, ar a1), (12, .ptr 0 0 0), (13, .loc 1 0 l40.length), (85, ax a0.Kids), (86, vi (a0.Kids.length : Int)), (87, vi i33), (91, .d (eL (some 8) (eA8 (D.int .u16)) y32)), (92, vi (y32.length : Int)), (93, vi i41)], ac [(0, cK x39), (1, .lst false (some 8) (List.map (eA8 (D.int .u16)) l40))], 2⟩
          have hc45 : ¬ (decide (i41 < (y32.length : Int)) = true) := fun hq => hgo43 (of_decide_eq_true hq)
          refine am ⟨tab [(1, ar a1), (12, .ptr 0 0 0), (13, .loc 1 0 l40.length), (85, ax a0.Kids), (86, vi (a0.Kids.length : Int)), (87, vi i33), (91, .d (eL (some 8) (eA8 (D.int .u16)) y32)), (92, vi (y32.length : Int)), (93, vi i41), (94, vb (decide (i41 < (y32.length : Int))))], ac [(0, cK x39), (1, .lst false (some 8) (List.map (eA8 (D.int .u16)) l40))], 2⟩ ?_ ?_
          ·
           refine q1 _ ?_
           exact nR [0, 1]
          refine aG ?_
          refine aW (t := decide (i41 < (y32.length : Int))) rfl hc45 ?_
          refine bb (s0 := ⟨tab [(1, ar a1), (13, .loc 0 0 l40.length), (85, ax a0.Kids), (86, vi (a0.Kids.length : Int)), (87, vi i33)], ac [(0, .lst false (some 8) (List.map (eA8 (D.int .u16)) l40))], 1⟩) (nr [1]) ?_
          refine cI ?_
          exact And.intro rfl rfl
         ·
          intro r' hq
          subst hq
          exact aq h
         rintro z50 rfl
         rcases i7 h with ⟨hr51, h⟩ | ⟨r51, hr51, h⟩
         ·
          obtain ⟨r52, kr52, hr⟩ := cq (o := some none) (g := Br.ret) h
          subst hr
          have h := kr52
          have hh := aq h
          subst hh
          refine aI.opsP (ch := fS) 1 rfl ?_
          refine q1 _ ?_
          refine aZ.nil' ⟨_, (m8 (xs := z50) (e := (eA8 (D.int .u16))) rfl rfl aQ.nil'), (sH hr51), ?_⟩
          refine And.intro (fun hn => nomatch hn) ?_
          intro hq
          have hq := hq.symm
          subst hq
          exact dW.pan
         refine bU ⟨tab [(1, ar a1), (10, .d (eL (some 8) (eA8 (D.int .u16)) r51)), (85, ax a0.Kids), (86, vi (a0.Kids.length : Int)), (87, vi i33)], ac [], 0⟩ ?_ ?_
         ·
          refine q1 _ ?_
          refine gF (v := .d (eL (some 8) (eA8 (D.int .u16)) r51)) (σ' := _) (n' := _) (wM (sq (ds := [eL (some 8) (eA8 (D.int .u16)) z50]) (sG hr51) (by simp)) (m8 (xs := z50) (e := (eA8 (D.int .u16))) rfl rfl aQ.nil')) (Nat.le_refl _) ?_
          refine q1 _ ?_
          exact nR []
         have hh := aq h
         subst hh
         refine bU ⟨tab [(1, ar a1), (10, .d (eL (some 8) (eA8 (D.int .u16)) r51)), (85, ax a0.Kids), (86, vi (a0.Kids.length : Int)), (87, vi (i33 + 1))], ac [], 0⟩ ?_ ?_
         ·
          refine step (v := vi (i33 + 1)) (cL (cM hinv36 hgo35 hB34) rfl rfl) ?_
          refine q1 _ ?_
          exact nR []
         exact And.intro rfl rfl
        ·
         rintro i33 y32 hinv36 hgo35
         show aI _ _ _ _ _ ⟨tab [(1, ar a1), (10, .d (eL (some 8) (eA8 (D.int .u16)) y32)), (85, ax a0.Kids), (86, vi (a0.Kids.length : Int)), (87, vi i33)], ac [], 0⟩
         have hc37 : ¬ (decide (i33 < (a0.Kids.length : Int)) = true) := fun hq => hgo35 (of_decide_eq_true hq)
         refine am ⟨tab [(1, ar a1), (10, .d (eL (some 8) (eA8 (D.int .u16)) y32)), (85, ax a0.Kids), (86, vi (a0.Kids.length : Int)), (87, vi i33), (88, vb (decide (i33 < (a0.Kids.length : Int))))], ac [], 0⟩ ?_ ?_
         ·
          refine q1 _ ?_
          exact nR []
         refine aG ?_
         refine aW (t := decide (i33 < (a0.Kids.length : Int))) rfl hc37 ?_
         refine bb (s0 := ⟨tab [(10, .d (eL (some 8) (eA8 (D.int .u16)) y32))], ac [], 0⟩) (nr []) ?_
         refine cI ?_
         exact And.intro rfl rfl
        ·
         intro r' hq
         subst hq
         exact aq h
        rintro z53 rfl
        refine am ⟨tab [(6, .d (eL (some 8) (eA8 (D.int .u16)) z53))], ac [], 0⟩ ?_ ?_
        ·
         iterate 2 refine q1 _ ?_
         exact nR []
        have hh := aq h
        subst hh
        refine aV ?_
        refine dW.ret ?_
        show FQ _ _ _ _
        exact br (.inr rfl) (bg (v := .d (eL (some 8) (eA8 (D.int .u16)) z53)) rfl rfl) (RV.d trivial)
       ·
        replace h := aP hc30 h
        refine aW (t := (a0.Op == 6)) rfl hc30 ?_
        refine bh ?_
        refine am ⟨tab [(6, .d (eL (some 8) (eA8 (D.int .u16)) ([] : List (A8 Int))))], ac [], 0⟩ ?_ ?_
        ·
         refine q1 _ ?_
         exact nR []
        have hh := aq h
        subst hh
        refine aV ?_
        refine dW.ret ?_
        show FQ _ _ _ _
        exact br (.inr rfl) (bg (v := .d (eL (some 8) (eA8 (D.int .u16)) ([] : List (A8 Int)))) rfl rfl) (RV.d trivial)
theorem sI : ∀ (k : Nat) (a0 : ai) (a1 : (List Int)) (a2 : (A8 Int)) (r : (Option (List (A8 Int)))), fN k a0 a1 a2 = some r → dK Try.prog 50 [bN a0, eL none (D.int .u16) a1, eA8 (D.int .u16) a2] (r.map fun r => eL (some 8) (eA8 (D.int .u16)) r) fS
 | 0, _, _, _, _, h => by cases h
 | k + 1, _, _, _, _, h => zQ (sI k) h
theorem sJ {a0 : ai} {a1 : (List Int)} {a2 : (A8 Int)} {r : (Option (List (A8 Int)))} (h : lz a0 a1 a2 = some r) : dK Try.prog 50 [bN a0, eL none (D.int .u16) a1, eA8 (D.int .u16) a2] (r.map fun r => eL (some 8) (eA8 (D.int .u16)) r) fS := sI dH _ _ _ _ h
theorem zR (v : Value) (w : World) : (Instr.typeAssert (.iface 104 v) 20 104 true).run Try.prog w = .ok (.tuple #[v, .bool true]) w := by kernel_rfl
theorem zS (b6 b7 : Nat) (v6 v7 v : Value) (w : World) (hne : b6 ≠ b7) (h6 : w.cell? ⟨b6, 0, none⟩ = some v6) (f6 : w.frozen? ⟨b6, 0, none⟩ = false) (h7 : w.cell? ⟨b7, 0, none⟩ = some v7) (f7 : w.frozen? ⟨b7, 0, none⟩ = false) :
 CallsD Try.prog 49 #[.pointer (some ⟨b6, 0, none⟩), .pointer (some ⟨b7, 0, none⟩)] (.panicking [{ v := .iface 104 (.agg #[]), recovered := false }]) w fun e u' w' =>
  e = .returned (.tuple #[]) ∧ u' = .panicking [{ v := .iface 104 (.agg #[]), recovered := true }] ∧ w' = ((w.alloc (.cells #[] 104)).setCell ⟨b6, 0, none⟩ (.slice none 0 0)).setCell ⟨b7, 0, none⟩ (.int .i64 24) := by
 refine callsD_of_wpS Try.func49 rfl fun c₀ cs hu => ?_
 apply wpS_seq
 apply wpS_region
 simp [wpOpsS, go_sem, recoverD, hu, Try.ntmps49, Exit.thenS]
 apply wpS_seq
 apply wpS_region
 simp [wpOpsS, go_sem, Exit.thenS]
 refine wpS_cond (t := true) (by simp [Act.eval, Array.replicate]) ?_
 simp only [if_true]
 refine wpS_of_wp ?_
 have e : (#[Value.pointer (some { block := b6, off := 0 }), Value.pointer (some { block := b7, off := 0 })] ++ ((((Array.replicate 14 undef).setIfInBounds 3 (Value.iface 104 (Value.agg #[]))).setIfInBounds 0 (Value.iface 104 (Value.agg #[]))).setIfInBounds 4 (Value.iface 104 (Value.agg #[]))).setIfInBounds 5 (Value.bool true)) = #[Value.pointer (some { block := b6, off := 0 }), Value.pointer (some { block := b7, off := 0 }), .iface 104 (.agg #[]), undef, undef, .iface 104 (.agg #[]), .iface 104 (.agg #[]), .bool true, undef, undef, undef, undef, undef, undef, undef, undef] := rfl
 rw [e]
 clear e
 have ha := zR
 have s6 : b6 < w.heap.size := by
  by_cases h : b6 < w.heap.size
  ·
   exact h
  ·
   simp [World.cell?, Array.getElem?_eq_none (Nat.le_of_not_lt h)] at h6
 have s7 : b7 < w.heap.size := by
  by_cases h : b7 < w.heap.size
  ·
   exact h
  ·
   simp [World.cell?, Array.getElem?_eq_none (Nat.le_of_not_lt h)] at h7
 have ne : (⟨b6, 0, none⟩ : Addr) ≠ ⟨b7, 0, none⟩ := fun h => hne (by injection h)
 have g6 : (w.alloc (.cells #[] 104)).cell? ⟨b6, 0, none⟩ = some v6 := by rw [World.cell?_alloc_lt (h := s6)]; exact h6
 have gf6 : (w.alloc (.cells #[] 104)).frozen? ⟨b6, 0, none⟩ = false := by rw [World.frozen?_alloc_past _ _ _ s6]; exact f6
 have g7 : ((w.alloc (.cells #[] 104)).setCell ⟨b6, 0, none⟩ (.slice none 0 0)).cell? ⟨b7, 0, none⟩ = some v7 := by rw [World.cell?_setCell_other (h := ne), World.cell?_alloc_lt (h := s7)]; exact h7
 have gf7 : ((w.alloc (.cells #[] 104)).setCell ⟨b6, 0, none⟩ (.slice none 0 0)).frozen? ⟨b7, 0, none⟩ = false := by rw [World.frozen?_setCell, World.frozen?_alloc_past _ _ _ s7]; exact f7
 clear h6 f6 h7 f7 s6 s7 ne
 generalize hQ : bodyPostS Try.prog Try.f49 c₀ cs _ = Q0
 go_wp2_with fail
 subst hQ
 cases c₀
 simp_all [bodyPostS, results, Try.results49]
theorem zT {a : Array Value} (h : a.size = 18) : a = #[a.getD 0 undef, a.getD 1 undef, a.getD 2 undef, a.getD 3 undef, a.getD 4 undef, a.getD 5 undef, a.getD 6 undef, a.getD 7 undef, a.getD 8 undef, a.getD 9 undef, a.getD 10 undef, a.getD 11 undef, a.getD 12 undef, a.getD 13 undef, a.getD 14 undef, a.getD 15 undef, a.getD 16 undef, a.getD 17 undef] := by
 apply Array.ext
 ·
  simpa using h
 ·
  intro i h1 h2
  have : i = 0 ∨ i = 1 ∨ i = 2 ∨ i = 3 ∨ i = 4 ∨ i = 5 ∨ i = 6 ∨ i = 7 ∨ i = 8 ∨ i = 9 ∨ i = 10 ∨ i = 11 ∨ i = 12 ∨ i = 13 ∨ i = 14 ∨ i = 15 ∨ i = 16 ∨ i = 17 := by omega
  rcases this with rfl | rfl | rfl | rfl | rfl | rfl | rfl | rfl | rfl | rfl | rfl | rfl | rfl | rfl | rfl | rfl | rfl | rfl <;> simp [Array.getD, h]
def zU : bA := .ops false [
 oo 3 (.box (some 4) (.t 0) true),
 oo 5 (.box (some 8) (.t 2) true),
 oo 6 (.alloc [.vec (some 8) []]),
 oo 7 (.alloc [.int .i64 0])]
def zV : bA := .seq (.ops true [
 oo 8 (.mkslF none (.int .u16 0) (ci 4) (ci 4)),
 oo 9 (.ldI (some 4) (.t 3)),
 oo 10 (.build [.vec none [], .int .i64 0, .int .i64 0, .int .u16 0, .vec (some 4) [], .vec (some 3) []] [(0, 1, (.t 8)), (1, 4, (.t 9))]),
 oo 11 (.call false 48 [(.t 10)]),
 oo 12 (.bin .neq (.t 11) (ci 0))])
 (.cond (.t 12)
 (.seq (.ops false [
 ⟨none, .store none (.t 6) (.c (.vec (some 8) [])), none⟩,
 ⟨none, .store none (.t 7) (ci 11), none⟩])
 (.ret))
 (.skip))
def gn (a0 : ai) (a1 : List Int) (a2 : A8 Int) : S := ⟨tab [(1, ar a1), (3, bk a0), (5, .d (.cptr (some 8) (eA8 (D.int .u16) a2) 0)), (6, .ptr 0 0 0), (7, .ptr 1 0 0)], ac [(0, .var [.d (eL (some 8) (eA8 (D.int .u16)) [])]), (1, .var [vi 0])], 2⟩
theorem zW {a0 : ai} {a1 : List Int} {a2 : A8 Int} : aI Try.prog 18 0 zU (fun e s => e = .normal ∧ s = gn a0 a1 a2) ⟨eZ ([bN a0, eL none (D.int .u16) a1, eA8 (D.int .u16) a2].map V.d), fun _ => none, 0⟩ := by
 refine bb (s0 := ⟨tab [(0, vs1 a0), (1, ar a1), (2, .d (eA8 (D.int .u16) a2))], ac [], 0⟩) (nr []) ?_
 refine aI.ops ?_
 iterate 2 refine q1 _ ?_
 refine step (v := .ptr 0 0 0) (σ' := (al (ac []) 0 (some (.var [.d (eL (some 8) (eA8 (D.int .u16)) [])])))) (n' := 1) rfl ?_
 refine step (v := .ptr 1 0 0) (σ' := (al (al (ac []) 0 (some (.var [.d (eL (some 8) (eA8 (D.int .u16)) [])]))) 1 (some (.var [vi 0])))) (n' := 2) rfl ?_
 refine aZ.nil' ⟨gn a0 a1 a2, ?_, rfl, rfl⟩
 exact nr [0, 1]
theorem zX {a0 : ai} {a1 : List Int} {a2 : A8 Int} {l1 : List Int} (hl1 : gU 4 0 = some l1) (hr2 : gY (fC.mk l1 a0 []) = some 0) : aI Try.prog 18 0 zV (fun e s => e = .normal ∧ s = gn a0 a1 a2) (gn a0 a1 a2) := by
 refine aG ?_
 refine aI.ops ?_
 refine step (v := .loc 2 0 l1.length) (σ' := (al (ac [(0, .var [.d (eL (some 8) (eA8 (D.int .u16)) [])]), (1, .var [vi 0])]) 2 (some (.lst false none (List.map (D.int .u16) l1))))) (n' := 3) (qA (e := (D.int .u16)) (z := 0) hl1 rfl rfl (qB hl1)) ?_
 iterate 2 refine q1 _ ?_
 refine bC (r := .int .i64 0) (qi (nb (dU (kS (xs := l1) (e := (D.int .u16)) rfl rfl) (dU fg (dU fg (dU fg (dU fg (dU fg kR))))))) (dc.aggs (by exact ⟨.refl _, .refl _, .refl _, .refl _, .refl _, .refl _, trivial⟩)) aQ.nil') (oH hr2) ?_
 refine q1 _ ?_
 refine aZ.nil' ⟨⟨tab [(1, ar a1), (3, bk a0), (5, .d (.cptr (some 8) (eA8 (D.int .u16) a2) 0)), (6, .ptr 0 0 0), (7, .ptr 1 0 0), (12, vb false)], ac [(0, .var [.d (eL (some 8) (eA8 (D.int .u16)) [])]), (1, .var [vi 0])], 2⟩, nr [0, 1], ?_⟩
 refine aW (t := false) rfl (by decide) ?_
 refine bb (s0 := gn a0 a1 a2) (nr [0, 1]) ?_
 exact bh ⟨rfl, rfl⟩
theorem aE.ptr_inv {μ : Nat → Option bn} {O : Nat → Nat → Prop} {w : World} {id i j : Nat} {u : Value} (h : aE μ O w (.ptr id i j) u) : ∃ b k, u = .pointer (some ⟨b, i * ap k + j, none⟩) ∧ μ id = some (.at b k) := by
 cases h with
 | ptr _ _ _ b k hp => exact ⟨b, k, rfl, hp⟩
set_option maxHeartbeats 2000000 in
set_option maxRecDepth 20000 in
theorem zY {a0 : ai} {a1 : List Int} {a2 : A8 Int} {l1 : List Int} (hl1 : gU 4 0 = some l1) (hr2 : gY (fC.mk l1 a0 []) = some 0) (hr : lz a0 a1 a2 = some none) :
 PCall Try.prog 14 [bN a0, eL none (D.int .u16) a1, eA8 (D.int .u16) a2] (.tup [eL (some 8) (eA8 (D.int .u16)) [], .int .i64 24]) := by
 have hrun : iG Try.prog 50 [bN a0, eL none (D.int .u16) a1, eA8 (D.int .u16) a2] fS := dK.pan (sJ hr)
 refine ⟨by kernel_rfl, fun A w vs halt hglob hlen hrel => ?_⟩
 have hs : aJ A (fun _ => none) (fun _ => none) w := { blks := fun _ _ h => (nomatch h), inj := fun _ _ _ _ _ _ _ h => (nomatch h), amb := fun _ _ _ _ h => (nomatch h), alt := halt, glob := hglob.mono fun b o v h1 h2 => ⟨h1, fun h => h.elim (fun ⟨_, _, h3, _⟩ => by cases h3) h2⟩ }
 have hfull : aw A (fun _ => none) (fun _ => none) = A := by
  funext b o
  apply propext
  constructor
  ·
   rintro (⟨id, blk, h1, _⟩ | h)
   ·
    cases h1
   ·
    exact h
  ·
   exact .inr
 have hsz : vs.size = 3 := by simpa using hlen.symm
 refine calls_of_wp_defers Try.func14 rfl ?_
 have hsim : gD 18 A (fun _ => none) ⟨eZ ([bN a0, eL none (D.int .u16) a1, eA8 (D.int .u16) a2].map V.d), fun _ => none, 0⟩ { tmps := vs ++ Array.replicate (Try.f14.ntmps - vs.size) Go.undef, defers := [] } w := by
  have hn : Try.f14.ntmps = 18 := rfl
  refine ⟨⟨by simp [hn, hsz], (fun d h => by cases h), fun i => ?_, hs⟩, fun _ _ => rfl⟩
  simp only [eZ]
  by_cases hi : i < 3
  ·
   have e1 : ([bN a0, eL none (D.int .u16) a1, eA8 (D.int .u16) a2].map V.d)[i]? = some (.d ([bN a0, eL none (D.int .u16) a1, eA8 (D.int .u16) a2][i]'(by simpa using hi))) := by
    rw [List.getElem?_map, bV (by simpa using hi)]; rfl
   have e2 : vs[i]? = some (vs[i]'(by omega)) := by simp
   rw [Array.getD_eq_getD_getElem?, Array.getElem?_append_left (by omega), e1, e2]
   rw [hfull]
   exact .d _ _ (hrel i _ _ (bV _) e2)
  ·
   rw [List.getElem?_eq_none (by simpa using hi)]
   exact .d _ _ (.undef _)
 refine wp_seq (wp_mono (zW _ (by kernel_rfl) A _ _ w hsim) fun e a w1 ⟨_, s1, μ1, ⟨he1, hs1⟩, sim1, ng1⟩ => ?_)
 subst he1; subst hs1
 refine wp_seq (wp_mono (zX hl1 hr2 _ (by kernel_rfl) A μ1 a w1 sim1) fun e a w2 ⟨_, s2, μ2, ⟨he2, hs2⟩, sim2, ng2⟩ => ?_)
 subst he2; subst hs2
 have ng := ng1.trans ng2
 clear ng1 ng2 sim1 hsim
 obtain ⟨b6, c6, ty6, fr6, m6, g6, nf6, sz6, _⟩ := sim2.1.store.blks 0 _ rfl
 obtain ⟨b7, c7, ty7, fr7, m7, g7, nf7, sz7, _⟩ := sim2.1.store.blks 1 _ rfl
 obtain ⟨b6', k6, e6, m6'⟩ := (sim2.1.tmps 6 : aE μ2 _ w2 (.ptr 0 0 0) _).ptr_inv
 obtain ⟨b7', k7, e7, m7'⟩ := (sim2.1.tmps 7 : aE μ2 _ w2 (.ptr 1 0 0) _).ptr_inv
 rw [m6] at m6'; cases m6'
 rw [m7] at m7'; cases m7'
 have hne : b6 ≠ b7 := fun h => by
  have := sim2.1.store.inj 0 1 _ _ b6 none none rfl rfl m6 (by rw [h]; exact m7)
  cases this
 have o6 : w.heap.size ≤ b6 := (ng.ownB b6 ⟨0, _, none, rfl, m6⟩).resolve_left (fun ⟨_, _, _, h, _⟩ => by cases h)
 have o7 : w.heap.size ≤ b7 := (ng.ownB b7 ⟨1, _, none, rfl, m7⟩).resolve_left (fun ⟨_, _, _, h, _⟩ => by cases h)
 have hd : a.defers = [] := by
  cases hq : a.defers with
  | nil => rfl
  | cons d ds' =>
   obtain ⟨_, G, _, hG, _⟩ := sim2.1.defers d (by rw [hq]; exact List.mem_cons_self ..)
   cases hG
 have h3 : aE μ2 _ w2 (bk a0) _ := sim2.1.tmps 3
 have h5 : aE μ2 _ w2 (.d (.cptr (some 8) (eA8 (D.int .u16) a2) 0)) _ := sim2.1.tmps 5
 have h1 : aE μ2 _ w2 (ar a1) _ := sim2.1.tmps 1
 have hA := zT sim2.1.size
 generalize a.tmps.getD 3 undef = v3 at h3 hA
 generalize a.tmps.getD 5 undef = v5 at h5 hA
 generalize a.tmps.getD 1 undef = v1 at h1 hA
 have e6 : a.tmps.getD 6 undef = .pointer (some ⟨b6, 0, none⟩) := e6
 have e7 : a.tmps.getD 7 undef = .pointer (some ⟨b7, 0, none⟩) := e7
 rw [e6, e7] at hA
 have ld3 : ∃ b3 o3 p0 p1 p2 p3, v3 = .pointer (some ⟨b3, o3, none⟩) ∧ (w2.cell? ⟨b3, o3, none⟩ = some p0 ∧ w2.cell? ⟨b3, o3 + 1, none⟩ = some p1 ∧ w2.cell? ⟨b3, o3 + 2, none⟩ = some p2 ∧ w2.cell? ⟨b3, o3 + 3, none⟩ = some p3) ∧ DRel (aw A μ2 (gn a0 a1 a2).σ) w2 (bN a0) (.agg #[p0, p1, p2, p3]) := by
  cases h3 with | d _ _ h => cases h with
   | cptr _ _ _ b off f hsh k1 k2 k3 k4 =>
    refine ⟨b, off, f 0, f 1, f 2, f 3, rfl, ⟨k1 0 _ rfl, k1 1 _ rfl, k1 2 _ rfl, k1 3 _ rfl⟩, ?_⟩
    refine .agg _ _ rfl fun i d v hd hv => ?_
    have : i = 0 ∨ i = 1 ∨ i = 2 ∨ i = 3 := by have := (Array.getElem?_eq_some_iff.1 hv).1; simp at this; omega
    rcases this with rfl | rfl | rfl | rfl <;> (cases hv; exact k3 _ _ hd)
 have ld5 : ∃ b5 o5 q0 q1 q2 q3 q4 q5 q6 q7, v5 = .pointer (some ⟨b5, o5, none⟩) ∧ (w2.cell? ⟨b5, o5, none⟩ = some q0 ∧ w2.cell? ⟨b5, o5 + 1, none⟩ = some q1 ∧ w2.cell? ⟨b5, o5 + 2, none⟩ = some q2 ∧ w2.cell? ⟨b5, o5 + 3, none⟩ = some q3 ∧ w2.cell? ⟨b5, o5 + 4, none⟩ = some q4 ∧ w2.cell? ⟨b5, o5 + 5, none⟩ = some q5 ∧ w2.cell? ⟨b5, o5 + 6, none⟩ = some q6 ∧ w2.cell? ⟨b5, o5 + 7, none⟩ = some q7) ∧ DRel (aw A μ2 (gn a0 a1 a2).σ) w2 (eA8 (D.int .u16) a2) (.agg #[q0, q1, q2, q3, q4, q5, q6, q7]) := by
  cases h5 with | d _ _ h => cases h with
   | cptr _ _ _ b off f hsh k1 k2 k3 k4 =>
    refine ⟨b, off, f 0, f 1, f 2, f 3, f 4, f 5, f 6, f 7, rfl, ⟨k1 0 _ rfl, k1 1 _ rfl, k1 2 _ rfl, k1 3 _ rfl, k1 4 _ rfl, k1 5 _ rfl, k1 6 _ rfl, k1 7 _ rfl⟩, ?_⟩
    refine .agg _ _ rfl fun i d v hd hv => ?_
    have : i = 0 ∨ i = 1 ∨ i = 2 ∨ i = 3 ∨ i = 4 ∨ i = 5 ∨ i = 6 ∨ i = 7 := by have := (Array.getElem?_eq_some_iff.1 hv).1; simp at this; omega
    rcases this with rfl | rfl | rfl | rfl | rfl | rfl | rfl | rfl <;> (cases hv; exact k3 _ _ hd)
 obtain ⟨b3, o3, p0, p1, p2, p3, rfl, ⟨c30, c31, c32, c33⟩, d3⟩ := ld3
 obtain ⟨b5, o5, q0, q1, q2, q3, q4, q5, q6, q7, rfl, ⟨c50, c51, c52, c53, c54, c55, c56, c57⟩, d5⟩ := ld5
 have d1 : DRel (aw A μ2 (gn a0 a1 a2).σ) w2 (eL none (D.int .u16) a1) v1 := by cases h1 with | d _ _ h => exact h
 have hcon := hrun.2 (aw A μ2 (gn a0 a1 a2).σ) w2 #[.agg #[p0, p1, p2, p3], v1, .agg #[q0, q1, q2, q3, q4, q5, q6, q7]] (fun b o h => by
  rcases h with h | h
  ·
   obtain ⟨j, bl, k, hj, hp⟩ := hO h
   obtain ⟨_, hc⟩ := cf.block (sim2.1.store.blks j bl hj) hp
   exact cU hc
  ·
   exact sim2.1.store.alt b o h) sim2.1.store.glob rfl (fun i d v hd hv => by
  have : i = 0 ∨ i = 1 ∨ i = 2 := by
   have := (List.getElem?_eq_some_iff.1 hd).1; simp at this; omega
  rcases this with rfl | rfl | rfl <;> (cases hd; cases hv; assumption))
 have hAct : a = { tmps := a.tmps, defers := [] } := by rw [← hd]
 generalize a.tmps.getD 0 undef = x0 at hA
 generalize a.tmps.getD 2 undef = x2 at hA
 generalize a.tmps.getD 4 undef = x4 at hA
 generalize a.tmps.getD 8 undef = x8 at hA
 generalize a.tmps.getD 9 undef = x9 at hA
 generalize a.tmps.getD 10 undef = x10 at hA
 generalize a.tmps.getD 11 undef = x11 at hA
 generalize a.tmps.getD 12 undef = x12 at hA
 generalize a.tmps.getD 13 undef = x13 at hA
 generalize a.tmps.getD 14 undef = x14 at hA
 generalize a.tmps.getD 15 undef = x15 at hA
 generalize a.tmps.getD 16 undef = x16 at hA
 generalize a.tmps.getD 17 undef = x17 at hA
 rw [hAct, hA]
 have N : Aside ((w2.heap[b6]? = some (.cells c6 ty6 fr6) ∧ gr c6 fr6 ∧ 1 = c6.size) ∧ (w2.heap[b7]? = some (.cells c7 ty7 fr7) ∧ gr c7 fr7 ∧ 1 = c7.size) ∧ b6 ≠ b7 ∧ w.heap.size ≤ b6 ∧ w.heap.size ≤ b7 ∧ NG 0 (fun _ => none) (fun _ => none) w μ2 (gn a0 a1 a2).σ w2) := ⟨⟨g6, nf6, sz6⟩, ⟨g7, nf7, sz7⟩, hne, o6, o7, ng⟩
 clear g6 nf6 sz6 g7 nf7 sz7 hne o6 o7 ng hAct hA hd d1 d3 d5 h1 h3 h5 e6 e7 m6 m7 sim2 hrun hr hr2 hl1 hs hfull halt hglob hlen hrel hsz
 have hmf : ∀ (fn : Fn) (first cap : Array Value) (w : World), (Instr.makeFunc fn first cap).run Try.prog w = .ok (.func fn first cap) w := fun _ _ _ _ => rfl
 go_wp2_with (go_at_call 50; refine hcon.mono ?_; rintro e w' ⟨rfl, hb⟩)
 obtain ⟨⟨g6, nf6, sz6⟩, ⟨g7, nf7, sz7⟩, hne, o6, o7, ng⟩ := N.out
 have k6 : w'.heap[b6]? = some (.cells c6 ty6 fr6) := by rw [hb.block b6 (cU g6)]; exact g6
 have k7 : w'.heap[b7]? = some (.cells c7 ty7 fr7) := by rw [hb.block b7 (cU g7)]; exact g7
 have v6 : w'.cell? ⟨b6, 0, none⟩ = some c6[0] := by rw [dY k6]; exact Array.getElem?_eq_getElem (by omega)
 have v7 : w'.cell? ⟨b7, 0, none⟩ = some c7[0] := by rw [dY k7]; exact Array.getElem?_eq_getElem (by omega)
 show Leaves Try.prog Try.f14 _ _ _ (.panicking fS) w'
 refine leaves_cons (f := 49) (args := #[.pointer (some ⟨b6, 0, none⟩), .pointer (some ⟨b7, 0, none⟩)]) (by simp) (by simp [go_sem]) ?_
 refine (zS b6 b7 _ _ .nilIface w' hne v6 (kE k6 nf6 (by omega)) v7 (kE k7 nf7 (by omega))).mono ?_
 rintro e u' w'' ⟨rfl, rfl, rfl⟩
 have ne : (⟨b6, 0, none⟩ : Addr) ≠ ⟨b7, 0, none⟩ := fun h => hne (by injection h)
 have l6 : b6 < w'.heap.size := cU k6
 have l7 : b7 < w'.heap.size := cU k7
 have f6 : (((w'.alloc (.cells #[] 104)).setCell ⟨b6, 0, none⟩ (.slice none 0 0)).setCell ⟨b7, 0, none⟩ (.int .i64 24)).cell? ⟨b6, 0, none⟩ = some (.slice none 0 0) := by
  rw [World.cell?_setCell_other (h := ne.symm)]
  exact World.cell?_setCell_same _ _ _ (u := c6[0]) (((World.cell?_alloc_lt _ _ _ l6)).trans v6)
 have f7 : (((w'.alloc (.cells #[] 104)).setCell ⟨b6, 0, none⟩ (.slice none 0 0)).setCell ⟨b7, 0, none⟩ (.int .i64 24)).cell? ⟨b7, 0, none⟩ = some (.int .i64 24) :=
  World.cell?_setCell_same _ _ _ (u := c7[0]) ((World.cell?_setCell_other _ _ _ _ ne).trans ((World.cell?_alloc_lt _ _ _ l7).trans v7))
 generalize hW : ((w'.alloc (.cells #[] 104)).setCell ⟨b6, 0, none⟩ (.slice none 0 0)).setCell ⟨b7, 0, none⟩ (.int .i64 24) = W at f6 f7
 show ∃ v, (results Try.f14 _).run Try.prog W = .ok v W ∧ _
 refine ⟨.tuple #[.slice none 0 0, .int .i64 24], by simp [results, Try.results14, go_sem, f6, f7], _, rfl, ?_, ?_⟩
 ·
  refine .tup _ _ rfl fun i d v hd hv => ?_
  have : i = 0 ∨ i = 1 := by have := (Array.getElem?_eq_some_iff.1 hv).1; simp at this; omega
  rcases this with rfl | rfl
  ·
   cases hd; cases hv; exact .vecn _ none
  ·
   cases hd; cases hv; exact .int _ _ (by decide)
 ·
  have h1 : ∀ k, k < w.heap.size → w'.heap[k]? = w.heap[k]? := fun k hk => by
   rw [hb.block k (Nat.lt_of_lt_of_le hk ng.size)]
   exact ng.block k hk (fun ⟨_, _, _, h, _⟩ => by cases h)
  have sz : w.heap.size ≤ w'.heap.size := Nat.le_trans ng.size hb.size
  rw [← hW]
  refine ⟨by show w'.os = _; rw [hb.os]; exact ng.os, by show w'.tape = _; rw [hb.tape]; exact ng.tape, by show w'.output = _; rw [hb.output]; exact ng.output, ?_, fun k hk => ?_⟩
  ·
   simp only [World.setCell, World.alloc, Array.size_modify, Array.size_push]; omega
  ·
   rw [← h1 k hk]
   have n6 : b6 ≠ k := by omega
   have n7 : b7 ≠ k := by omega
   simp only [World.setCell, World.alloc, Array.getElem?_modify, n6, n7, if_false]
   rw [Array.getElem?_push_lt (by omega), Array.getElem?_eq_getElem (by omega)]
theorem zZ : qj Try.prog 49 := by
 intro cap w
 refine ⟨by simp [invoke, go_sem], ?_⟩
 refine callsD_of_wpS Try.func49 rfl fun c₀ cs hu => ?_
 have h5 : 5 < cap.size + (16 - cap.size) := by omega
 have h2 : 2 < cap.size + (16 - cap.size) := by omega
 have h6 : 6 < cap.size + (16 - cap.size) := by omega
 have h7 : 7 < cap.size + (16 - cap.size) := by omega
 apply wpS_seq
 apply wpS_region
 simp [wpOpsS, go_sem, recoverD, hu, Exit.thenS, Try.ntmps49, h5]
 apply wpS_seq
 apply wpS_region
 simp [wpOpsS, go_sem, Exit.thenS, h2, h6]
 refine wpS_cond (t := false) (by simp [Act.eval, go_sem, h7]) ?_
 simp only [Bool.false_eq_true, if_false]
 refine wpS_of_wp (wp_skip ?_)
 cases c₀
 simp_all [bodyPostS, results, Try.results49]
def sK : bI := .mk 18
 (.seq (.ops false [
 oo 3 (.box (some 4) (.t 0) true),
 oo 5 (.box (some 8) (.t 2) true),
 oo 6 (.alloc [.vec (some 8) []]),
 oo 7 (.alloc [.int .i64 0])])
 (.seq (.seq (.ops true [
 oo 8 (.mkslF none (.int .u16 0) (ci 4) (ci 4)),
 oo 9 (.ldI (some 4) (.t 3)),
 oo 10 (.build [.vec none [], .int .i64 0, .int .i64 0, .int .u16 0, .vec (some 4) [], .vec (some 3) []] [(0, 1, (.t 8)), (1, 4, (.t 9))]),
 oo 11 (.call false 48 [(.t 10)]),
 oo 12 (.bin .neq (.t 11) (ci 0))])
 (.cond (.t 12)
 (.seq (.ops false [
 ⟨none, .store none (.t 6) (.c (.vec (some 8) [])), none⟩,
 ⟨none, .store none (.t 7) (ci 11), none⟩])
 (.ret))
 (.skip)))
 (.seq (.dfr 13 49)
 (.seq (.ops false [
 oo 14 (.ldI (some 4) (.t 3)),
 oo 15 (.mov (.t 1)),
 oo 16 (.ldI (some 8) (.t 5)),
 oo 17 (.call false 50 [(.t 14), (.t 15), (.t 16)]),
 ⟨none, .store none (.t 6) (.t 17), none⟩,
 ⟨none, .store none (.t 7) (ci 0), none⟩])
 (.ret)))))
 [.cell 6 none, .cell 7 none]
@[reducible] def kg : Glob := ⟨[], [49]⟩
theorem sL : @DfrOk kg Try.prog := @DfrOk.mk kg _ (fun G h => by
 rcases List.mem_singleton.1 h with rfl
 exact zZ)
set_option maxRecDepth 100000 in
theorem mb : @bL kg Try.prog 14 sK = true := by kernel_rfl
def oI (a0 : ai) (f : Option (List (A8 Int))) : Option ((List (A8 Int)) × Int) :=
 (gU 4 0).bind fun l1 =>
  (gY (fC.mk l1 a0 [])).bind fun r2 =>
  (if (r2 != 0) then some (([] : List (A8 Int)), 11) else f.bind fun r4 =>
  some (r4, 0))
theorem sM [Glob] [DfrOk Try.prog] {a0 : ai} {a1 : (List Int)} {a2 : (A8 Int)} {r : ((List (A8 Int)) × Int)} {f : Option (List (A8 Int))} (mb : bL Try.prog 14 sK = true)
 (hchk : ∀ {l1 : List Int} (r2 : Int), gY (fC.mk l1 a0 []) = some r2 → PCall Try.prog 48 [l3 (fC.mk l1 a0 [])] (.int .i64 r2))
 (hrun : ∀ r4 : List (A8 Int), f = some r4 → PCall Try.prog 50 [bN a0, eL none (D.int .u16) a1, eA8 (D.int .u16) a2] (eL (some 8) (eA8 (D.int .u16)) r4))
 (h : oI a0 f = some r) : PCall Try.prog 14 [bN a0, eL none (D.int .u16) a1, eA8 (D.int .u16) a2] (.tup [eL (some 8) (eA8 (D.int .u16)) r.1, .int .i64 r.2]) := by
 refine PCall.introN mb (show 3 ≤ 18 by decide) ?_
 refine bb (s0 := ⟨tab [(0, vs1 a0), (1, ar a1), (2, .d (eA8 (D.int .u16) a2))], ac [], 0⟩) (nr []) ?_
 refine am ⟨tab [(1, ar a1), (3, bk a0), (5, .d (.cptr (some 8) (eA8 (D.int .u16) a2) 0)), (6, .ptr 0 0 0), (7, .ptr 1 0 0)], ac [(0, .var [.d (eL (some 8) (eA8 (D.int .u16)) [])]), (1, .var [vi 0])], 2⟩ ?_ ?_
 ·
  iterate 2 refine q1 _ ?_
  refine step (v := .ptr 0 0 0) (σ' := (al (ac []) 0 (some (.var [.d (eL (some 8) (eA8 (D.int .u16)) [])])))) (n' := 1) rfl ?_
  refine step (v := .ptr 1 0 0) (σ' := (al (al (ac []) 0 (some (.var [.d (eL (some 8) (eA8 (D.int .u16)) [])]))) 1 (some (.var [vi 0])))) (n' := 2) rfl ?_
  exact nR [0, 1]
 refine aG ?_
 obtain ⟨l1, hl1, h⟩ := ay h
 obtain ⟨r2, hr2, h⟩ := ay h
 refine am ⟨tab [(1, ar a1), (3, bk a0), (5, .d (.cptr (some 8) (eA8 (D.int .u16) a2) 0)), (6, .ptr 0 0 0), (7, .ptr 1 0 0), (12, vb (r2 != 0))], ac [(0, .var [.d (eL (some 8) (eA8 (D.int .u16)) [])]), (1, .var [vi 0])], 2⟩ ?_ ?_
 ·
  refine step (v := .loc 2 0 l1.length) (σ' := (al (ac [(0, .var [.d (eL (some 8) (eA8 (D.int .u16)) [])]), (1, .var [vi 0])]) 2 (some (.lst false none (List.map (D.int .u16) l1))))) (n' := 3) (qA (e := (D.int .u16)) (z := 0) hl1 rfl rfl (qB hl1)) ?_
  iterate 2 refine q1 _ ?_
  refine bC (r := .int .i64 r2) (qi (nb (dU (kS (xs := l1) (e := (D.int .u16)) rfl rfl) (dU fg (dU fg (dU fg (dU fg (dU fg kR))))))) (dc.aggs (by exact ⟨.refl _, .refl _, .refl _, .refl _, .refl _, .refl _, trivial⟩)) aQ.nil') (hchk r2 hr2) ?_
  refine q1 _ ?_
  exact nR [0, 1]
 by_cases hc3 : (r2 != 0) = true
 ·
  replace h := aO hc3 h
  refine aY (t := (r2 != 0)) rfl hc3 ?_
  refine am ⟨tab [(6, .ptr 0 0 0), (7, .ptr 1 0 0)], ac [(0, .var [.d (eL (some 8) (eA8 (D.int .u16)) ([] : List (A8 Int)))]), (1, .var [vi 11])], 2⟩ ?_ ?_
  ·
   refine step (v := V.undef) (σ' := (al (ac [(0, .var [.d (eL (some 8) (eA8 (D.int .u16)) [])]), (1, .var [vi 0])]) 0 (some (.var [.d (eL (some 8) (eA8 (D.int .u16)) ([] : List (A8 Int)))])))) (n' := 2) rfl ?_
   refine step (v := V.undef) (σ' := (al (al (ac [(0, .var [.d (eL (some 8) (eA8 (D.int .u16)) [])]), (1, .var [vi 0])]) 0 (some (.var [.d (eL (some 8) (eA8 (D.int .u16)) ([] : List (A8 Int)))]))) 1 (some (.var [vi 11])))) (n' := 2) rfl ?_
   exact nR [0, 1]
  have hh := aq h
  subst hh
  refine aV ?_
  show FQ _ _ _ _
  exact eE (.inr rfl) rfl (RV.d (RV.d trivial))
 ·
  replace h := aP hc3 h
  refine aW (t := (r2 != 0)) rfl hc3 ?_
  refine bh ?_
  refine xa ?_
  obtain ⟨r4, hr4, h⟩ := ay h
  refine am ⟨tab [(6, .ptr 0 0 0), (7, .ptr 1 0 0)], ac [(0, .var [.d (eL (some 8) (eA8 (D.int .u16)) r4)]), (1, .var [vi 0])], 2⟩ ?_ ?_
  ·
   iterate 3 refine q1 _ ?_
   refine bC (r := eL (some 8) (eA8 (D.int .u16)) r4) (aF (aF (aF aQ.nil'))) (hrun r4 hr4) ?_
   refine step (v := V.undef) (σ' := (al (ac [(0, .var [.d (eL (some 8) (eA8 (D.int .u16)) [])]), (1, .var [vi 0])]) 0 (some (.var [.d (eL (some 8) (eA8 (D.int .u16)) r4)])))) (n' := 2) rfl ?_
   refine step (v := V.undef) (σ' := (al (al (ac [(0, .var [.d (eL (some 8) (eA8 (D.int .u16)) [])]), (1, .var [vi 0])]) 0 (some (.var [.d (eL (some 8) (eA8 (D.int .u16)) r4)]))) 1 (some (.var [vi 0])))) (n' := 2) rfl ?_
   exact nR [0, 1]
  have hh := aq h
  subst hh
  refine aV ?_
  show FQ _ _ _ _
  exact eE (.inr rfl) rfl (RV.d (RV.d trivial))
theorem z6 {a0 : ai} {a1 : (List Int)} {a2 : (A8 Int)} {r : ((List (A8 Int)) × Int)} (h : j4 a0 a1 a2 = some r) : PCall Try.prog 14 [bN a0, eL none (D.int .u16) a1, eA8 (D.int .u16) a2] (.tup [eL (some 8) (eA8 (D.int .u16)) r.1, .int .i64 r.2]) := by
 have hg : gU (4 : Int) (0 : Int) = some [0, 0, 0, 0] := by decide
 unfold j4 at h
 obtain ⟨r2, hr2, h⟩ := ay h
 by_cases hc : (r2 != 0) = true
 ·
  have h := aO hc h
  cases h
  refine @sM kg sL a0 a1 a2 _ none mb (fun r2 h2 => oH h2) (fun r4 h4 => by cases h4) ?_
  unfold oI
  simp only [hg, Option.bind_some, hr2]
  rw [if_pos hc]
 ·
  have h := aP hc h
  rcases i7 h with ⟨hr, h⟩ | ⟨r4, hr, h⟩
  ·
   cases h
   have e0 : r2 = 0 := by simpa using hc
   subst e0
   exact zY hg hr2 hr
  ·
   cases h
   refine @sM kg sL a0 a1 a2 _ (some r4) mb (fun r2 h2 => oH h2) (fun r h4 => by cases h4; exact dK.ok (sJ hr)) ?_
   unfold oI
   simp only [hg, Option.bind_some, hr2]
   rw [if_neg hc]
theorem z7 {a0 : (List law05_Step)} {r : (ai × Bool)} (h : lA a0 = some r) : PCall Try.prog 13 [eL (some 4) elaw05_Step a0] (.tup [bN r.1, .bool r.2]) := by
 refine PCall.introN yi (show 1 ≤ 123 by decide) ?_
 refine bb (s0 := ⟨tab [(0, cN a0)], ac [], 0⟩) (nr []) ?_
 refine am ⟨tab [(0, cN a0), (2, .ptr 0 0 0)], ac [(0, bz)], 1⟩ ?_ ?_
 ·
  refine step (v := .ptr 0 0 0) (σ' := (al (ac []) 0 (some (bz)))) (n' := 1) rfl ?_
  refine q1 _ ?_
  exact nR [0]
 refine aG ?_
 refine am ⟨tab [(0, cN a0), (2, .ptr 0 0 0), (12, vb (decide ((a0.length : Int) > 60)))], ac [(0, bz)], 1⟩ ?_ ?_
 ·
  refine q1 _ ?_
  refine step (v := vi (a0.length : Int)) (bF (xs := a0) (e := elaw05_Step) rfl) ?_
  refine q1 _ ?_
  exact nR [0]
 by_cases hc1 : decide ((a0.length : Int) > 60) = true
 ·
  replace h := aO hc1 h
  refine aY (t := decide ((a0.length : Int) > 60)) rfl hc1 ?_
  refine am ⟨tab [(2, .ptr 0 0 0), (3, vb false)], ac [(0, bz)], 1⟩ ?_ ?_
  ·
   refine step (v := vs1 (ai.mk 0 0 0 [])) (de (ds := [.int .i64 0, .int .i64 0, .int .u16 0, eL (some 4) aN []]) rfl) ?_
   refine step (v := V.undef) (σ' := (al (ac [(0, bz)]) 0 (some (bz)))) (n' := 1) rfl ?_
   refine q1 _ ?_
   exact nR [0]
  have hh := aq h
  subst hh
  refine aV ?_
  show FQ _ _ _ _
  exact eE (.inr rfl) (ff (ds := [.int .i64 0, .int .i64 0, .int .u16 0, eL (some 4) aN []]) rfl rfl (show 4 ≤ 4 by decide) rfl (bg (v := vb false) rfl rfl)) (RV.d (RV.d trivial))
 ·
  replace h := aP hc1 h
  refine aW (t := decide ((a0.length : Int) > 60)) rfl hc1 ?_
  refine bh ?_
  refine am ⟨tab [(0, cN a0), (2, .ptr 0 0 0), (4, .d (.nils))], ac [(0, bz)], 1⟩ ?_ ?_
  ·
   refine q1 _ ?_
   exact nR [0]
  refine aG ?_
  refine am ⟨tab [(2, .ptr 0 0 0), (4, .d (.nils)), (14, cN a0), (15, vi (a0.length : Int)), (16, vi 0)], ac [(0, bz)], 1⟩ ?_ ?_
  ·
   refine q1 _ ?_
   refine step (v := vi (a0.length : Int)) (bF (xs := a0) (e := elaw05_Step) rfl) ?_
   refine q1 _ ?_
   exact nR [0]
  obtain ⟨z29, hl, h⟩ := ay h
  refine bb (s0 := ⟨tab [(2, .ptr 0 0 0), (4, .loc 1 0 (([] : List ai).length)), (14, cN a0), (15, vi (a0.length : Int)), (16, vi 0)], ac [(0, bz), (1, .lst true (some 4) (List.map aN ([] : List ai)))], 2⟩) (bO.trans (s2 := ⟨tab [(2, .ptr 0 0 0), (4, .loc 1 0 (([] : List ai).length)), (14, cN a0), (15, vi (a0.length : Int)), (16, vi 0)], ac [(0, bz), (1, .lst true (some 4) (List.map aN ([] : List ai)))], 2⟩) (jX 4 true (some 4) rfl) (nr [0, 1])) ?_
  refine bG ?_
  refine jU (cQ (a0.length : Int)) (fun (i3 : Int) (qq : (List ai)) => ⟨tab [(2, .ptr 0 0 0), (4, .loc 1 0 qq.length), (14, cN a0), (15, vi (a0.length : Int)), (16, vi i3)], ac [(0, bz), (1, .lst true (some 4) (List.map aN qq))], 2⟩) 0 (fun (qq : (List ai)) => ⟨tab [(2, .ptr 0 0 0), (4, .loc 1 0 qq.length)], ac [(0, bz), (1, .lst true (some 4) (List.map aN qq))], 2⟩) bK cR hl (by unfold bK; omega) ?_ ?_ ?_
  ·
   rintro i3 l2 xr8 hinv6 hgo5 h
   show aI _ _ _ _ _ ⟨tab [(2, .ptr 0 0 0), (4, .loc 1 0 l2.length), (14, cN a0), (15, vi (a0.length : Int)), (16, vi i3)], ac [(0, bz), (1, .lst true (some 4) (List.map aN l2))], 2⟩
   have hc7 : decide (i3 < (a0.length : Int)) = true := decide_eq_true hgo5
   refine am ⟨tab [(2, .ptr 0 0 0), (4, .loc 1 0 l2.length), (14, cN a0), (15, vi (a0.length : Int)), (16, vi i3), (17, vb (decide (i3 < (a0.length : Int))))], ac [(0, bz), (1, .lst true (some 4) (List.map aN l2))], 2⟩ ?_ ?_
   ·
    refine q1 _ ?_
    exact nR [0, 1]
   refine c8 15 rfl fun hB4 => ?_
   refine aG ?_
   refine aY (t := decide (i3 < (a0.length : Int))) rfl hc7 ?_
   refine bh ?_
   obtain ⟨l27, hv, h⟩ := ay h
   refine gV ⟨tab [(2, .ptr 0 0 0), (4, .loc 1 0 l27.length), (14, cN a0), (15, vi (a0.length : Int)), (16, vi i3)], ac [(0, bz), (1, .lst true (some 4) (List.map aN l27))], 2⟩ ?_ ?_
   ·
    replace h := hv
    refine bG ?_
    obtain ⟨x9, hx9, h⟩ := ay h
    refine am ⟨tab [(2, .ptr 0 0 0), (4, .loc 1 0 l2.length), (6, .ptr 2 0 0), (14, cN a0), (15, vi (a0.length : Int)), (16, vi i3)], ac [(0, bz), (1, .lst true (some 4) (List.map aN l2)), (2, en x9)], 3⟩ ?_ ?_
    ·
     refine step (v := .d (.cptr (some 4) (elaw05_Step x9) 0)) (cl (xs := a0) (e := elaw05_Step) hx9 rfl rfl) ?_
     refine q1 _ ?_
     refine step (v := .ptr 2 0 0) (σ' := (al (ac [(0, bz), (1, .lst true (some 4) (List.map aN l2))]) 2 (some (.var [vi 0, vi 0, vh 0, v8 0])))) (n' := 3) rfl ?_
     refine step (v := V.undef) (σ' := (al (al (ac [(0, bz), (1, .lst true (some 4) (List.map aN l2))]) 2 (some (.var [vi 0, vi 0, vh 0, v8 0]))) 2 (some (en x9)))) (n' := 3) rfl ?_
     exact nR [0, 1, 2]
    refine am ⟨tab [(2, .ptr 0 0 0), (4, .loc 1 0 l2.length), (6, .ptr 2 0 0), (7, vi (l2.length : Int)), (14, cN a0), (15, vi (a0.length : Int)), (16, vi i3)], ac [(0, bz), (1, .lst true (some 4) (List.map aN l2)), (2, en x9)], 3⟩ ?_ ?_
    ·
     iterate 3 refine q1 _ ?_
     exact nR [0, 1, 2]
    refine bG ?_
    refine am ⟨tab [(2, .ptr 0 0 0), (4, .loc 1 0 l2.length), (6, .ptr 2 0 0), (7, vi (l2.length : Int)), (14, cN a0), (15, vi (a0.length : Int)), (16, vi i3), (22, vb ((x9.What == 0) || (x9.What == 1)))], ac [(0, bz), (1, .lst true (some 4) (List.map aN l2)), (2, en x9)], 3⟩ ?_ ?_
    ·
     iterate 4 refine q1 _ ?_
     by_cases hg10 : (x9.What == 0) = true
     ·
      iterate 3 refine qX (x9.What == 0) (by rw [hg10]; decide) ?_
      refine step (v := vb true) (bw (b := (x9.What == 0)) rfl hg10 rfl) ?_
      refine q1 _ ?_
      exact aZ.nil' (nm [0, 1, 2] ⟨.pt 0, .lc 1, .pt 2, .d _, .d _, .d _, .d _, .eq (by first | (simp [hg10]; done) | (simp_all; done) | grind), trivial⟩ ⟨⟨show 0 < 3 by decide, _, rfl, .vars ⟨.d _, .d _, .d _, .d _, trivial⟩⟩, ⟨show 1 < 3 by decide, _, rfl, .lst _ _ _⟩, ⟨show 2 < 3 by decide, _, rfl, .vars ⟨.d _, .d _, .d _, .d _, trivial⟩⟩, trivial⟩)
     ·
      refine qG (x9.What == 0) (Bool.eq_false_iff.2 hg10) ?_
      refine q1 _ ?_
      refine qG (x9.What == 0) (Bool.eq_false_iff.2 hg10) ?_
      refine q1 _ ?_
      refine qG (x9.What == 0) (Bool.eq_false_iff.2 hg10) ?_
      refine q1 _ ?_
      refine step (v := vb (x9.What == 1)) (bp (b := (x9.What == 0)) rfl hg10 rfl) ?_
      refine q1 _ ?_
      exact aZ.nil' (nm [0, 1, 2] ⟨.pt 0, .lc 1, .pt 2, .d _, .d _, .d _, .d _, .eq (by first | (simp [hg10]; done) | (simp_all; done) | grind), trivial⟩ ⟨⟨show 0 < 3 by decide, _, rfl, .vars ⟨.d _, .d _, .d _, .d _, trivial⟩⟩, ⟨show 1 < 3 by decide, _, rfl, .lst _ _ _⟩, ⟨show 2 < 3 by decide, _, rfl, .vars ⟨.d _, .d _, .d _, .d _, trivial⟩⟩, trivial⟩)
    by_cases hc11 : ((x9.What == 0) || (x9.What == 1)) = true
    ·
     replace h := aO hc11 h
     refine aY (t := ((x9.What == 0) || (x9.What == 1))) rfl hc11 ?_
     obtain ⟨l12, hl12, h⟩ := ay h
     have hh := aq h
     subst hh
     refine bU ⟨tab [(2, .ptr 0 0 0), (4, .loc 1 0 l12.length), (14, cN a0), (15, vi (a0.length : Int)), (16, vi i3)], ac [(0, bz), (1, .lst true (some 4) (List.map aN l12))], 2⟩ ?_ ?_
     ·
      iterate 3 refine q1 _ ?_
      refine step (v := vs1 (ai.mk x9.What 0 0 [])) (de (ds := [.int .i64 x9.What, .int .i64 0, .int .u16 0, eL (some 4) aN []]) rfl) ?_
      refine step (v := ax ([(ai.mk x9.What 0 0 [])] : List ai)) (im rfl (by simp [eL, dX])) ?_
      refine step (v := .loc 3 0 l12.length) (σ' := (al (al (ac [(0, bz), (1, .lst true (some 4) (List.map aN l2)), (2, en x9)]) 1 none) 3 (some (.lst true (some 4) (List.map aN l12))))) (n' := 4) (eP (xs := l2) (ys := ([(ai.mk x9.What 0 0 [])] : List ai)) (e := aN) hl12 rfl rfl rfl (fc (xs := ([(ai.mk x9.What 0 0 [])] : List ai)) (e := aN) rfl)) ?_
      refine q1 _ ?_
      exact nR [0, 3]
     exact And.intro rfl rfl
    ·
     replace h := aP hc11 h
     refine aW (t := ((x9.What == 0) || (x9.What == 1))) rfl hc11 ?_
     refine am ⟨tab [(2, .ptr 0 0 0), (4, .loc 1 0 l2.length), (6, .ptr 2 0 0), (7, vi (l2.length : Int)), (14, cN a0), (15, vi (a0.length : Int)), (16, vi i3), (37, vb ((x9.What == 2) || ((x9.What == 3) || (x9.What == 5))))], ac [(0, bz), (1, .lst true (some 4) (List.map aN l2)), (2, en x9)], 3⟩ ?_ ?_
     ·
      iterate 4 refine q1 _ ?_
      by_cases hg13 : (x9.What == 2) = true
      ·
       iterate 3 refine qX (x9.What == 2) (by rw [hg13]; decide) ?_
       refine step (v := vb true) (bw (b := (x9.What == 2)) rfl hg13 rfl) ?_
       refine q1 _ ?_
       iterate 3 refine qX true (by decide) ?_
       refine step (v := vb true) (bw (b := true) rfl rfl rfl) ?_
       refine q1 _ ?_
       exact aZ.nil' (nm [0, 1, 2] ⟨.pt 0, .lc 1, .pt 2, .d _, .d _, .d _, .d _, .eq (by first | (simp [hg13]; done) | (simp_all; done) | grind), trivial⟩ ⟨⟨show 0 < 3 by decide, _, rfl, .vars ⟨.d _, .d _, .d _, .d _, trivial⟩⟩, ⟨show 1 < 3 by decide, _, rfl, .lst _ _ _⟩, ⟨show 2 < 3 by decide, _, rfl, .vars ⟨.d _, .d _, .d _, .d _, trivial⟩⟩, trivial⟩)
      ·
       refine qG (x9.What == 2) (Bool.eq_false_iff.2 hg13) ?_
       refine q1 _ ?_
       refine qG (x9.What == 2) (Bool.eq_false_iff.2 hg13) ?_
       refine q1 _ ?_
       refine qG (x9.What == 2) (Bool.eq_false_iff.2 hg13) ?_
       refine q1 _ ?_
       refine step (v := vb (x9.What == 3)) (bp (b := (x9.What == 2)) rfl hg13 rfl) ?_
       refine q1 _ ?_
       by_cases hg14 : (x9.What == 3) = true
       ·
        iterate 3 refine qX (x9.What == 3) (by rw [hg14]; decide) ?_
        refine step (v := vb true) (bw (b := (x9.What == 3)) rfl hg14 rfl) ?_
        refine q1 _ ?_
        exact aZ.nil' (nm [0, 1, 2] ⟨.pt 0, .lc 1, .pt 2, .d _, .d _, .d _, .d _, .eq (by first | (simp [hg13, hg14]; done) | (simp_all; done) | grind), trivial⟩ ⟨⟨show 0 < 3 by decide, _, rfl, .vars ⟨.d _, .d _, .d _, .d _, trivial⟩⟩, ⟨show 1 < 3 by decide, _, rfl, .lst _ _ _⟩, ⟨show 2 < 3 by decide, _, rfl, .vars ⟨.d _, .d _, .d _, .d _, trivial⟩⟩, trivial⟩)
       ·
        refine qG (x9.What == 3) (Bool.eq_false_iff.2 hg14) ?_
        refine q1 _ ?_
        refine qG (x9.What == 3) (Bool.eq_false_iff.2 hg14) ?_
        refine q1 _ ?_
        refine qG (x9.What == 3) (Bool.eq_false_iff.2 hg14) ?_
        refine q1 _ ?_
        refine step (v := vb (x9.What == 5)) (bp (b := (x9.What == 3)) rfl hg14 rfl) ?_
        refine q1 _ ?_
        exact aZ.nil' (nm [0, 1, 2] ⟨.pt 0, .lc 1, .pt 2, .d _, .d _, .d _, .d _, .eq (by first | (simp [hg13, hg14]; done) | (simp_all; done) | grind), trivial⟩ ⟨⟨show 0 < 3 by decide, _, rfl, .vars ⟨.d _, .d _, .d _, .d _, trivial⟩⟩, ⟨show 1 < 3 by decide, _, rfl, .lst _ _ _⟩, ⟨show 2 < 3 by decide, _, rfl, .vars ⟨.d _, .d _, .d _, .d _, trivial⟩⟩, trivial⟩)
     by_cases hc15 : ((x9.What == 2) || ((x9.What == 3) || (x9.What == 5))) = true
     ·
      replace h := aO hc15 h
      refine aY (t := ((x9.What == 2) || ((x9.What == 3) || (x9.What == 5)))) rfl hc15 ?_
      obtain ⟨l16, hl16, h⟩ := ay h
      have hh := aq h
      subst hh
      refine bU ⟨tab [(2, .ptr 0 0 0), (4, .loc 1 0 l16.length), (14, cN a0), (15, vi (a0.length : Int)), (16, vi i3)], ac [(0, bz), (1, .lst true (some 4) (List.map aN l16))], 2⟩ ?_ ?_
      ·
       iterate 7 refine q1 _ ?_
       refine step (v := vs1 (ai.mk x9.What x9.F x9.N [])) (de (ds := [.int .i64 x9.What, .int .i64 x9.F, .int .u16 x9.N, eL (some 4) aN []]) rfl) ?_
       refine step (v := ax ([(ai.mk x9.What x9.F x9.N [])] : List ai)) (im rfl (by simp [eL, dX])) ?_
       refine step (v := .loc 3 0 l16.length) (σ' := (al (al (ac [(0, bz), (1, .lst true (some 4) (List.map aN l2)), (2, en x9)]) 1 none) 3 (some (.lst true (some 4) (List.map aN l16))))) (n' := 4) (eP (xs := l2) (ys := ([(ai.mk x9.What x9.F x9.N [])] : List ai)) (e := aN) hl16 rfl rfl rfl (fc (xs := ([(ai.mk x9.What x9.F x9.N [])] : List ai)) (e := aN) rfl)) ?_
       refine q1 _ ?_
       exact nR [0, 3]
      exact And.intro rfl rfl
     ·
      replace h := aP hc15 h
      refine aW (t := ((x9.What == 2) || ((x9.What == 3) || (x9.What == 5)))) rfl hc15 ?_
      refine am ⟨tab [(2, .ptr 0 0 0), (4, .loc 1 0 l2.length), (6, .ptr 2 0 0), (7, vi (l2.length : Int)), (14, cN a0), (15, vi (a0.length : Int)), (16, vi i3), (61, vb ((x9.What == 4) && (decide ((l2.length : Int) > 0))))], ac [(0, bz), (1, .lst true (some 4) (List.map aN l2)), (2, en x9)], 3⟩ ?_ ?_
      ·
       iterate 4 refine q1 _ ?_
       by_cases hg17 : (x9.What == 4) = true
       ·
        refine qG _ hg17 ?_
        refine q1 _ ?_
        refine qG _ hg17 ?_
        refine q1 _ ?_
        refine step (v := vb (decide ((l2.length : Int) > 0))) (bw (b := (x9.What == 4)) rfl hg17 rfl) ?_
        refine q1 _ ?_
        exact aZ.nil' (nm [0, 1, 2] ⟨.pt 0, .lc 1, .pt 2, .d _, .d _, .d _, .d _, .eq (by first | (simp [hg17]; done) | (simp_all; done) | grind), trivial⟩ ⟨⟨show 0 < 3 by decide, _, rfl, .vars ⟨.d _, .d _, .d _, .d _, trivial⟩⟩, ⟨show 1 < 3 by decide, _, rfl, .lst _ _ _⟩, ⟨show 2 < 3 by decide, _, rfl, .vars ⟨.d _, .d _, .d _, .d _, trivial⟩⟩, trivial⟩)
       ·
        iterate 2 refine qX _ hg17 ?_
        refine step (v := vb false) (bp (b := (x9.What == 4)) rfl hg17 rfl) ?_
        refine q1 _ ?_
        exact aZ.nil' (nm [0, 1, 2] ⟨.pt 0, .lc 1, .pt 2, .d _, .d _, .d _, .d _, .eq (by first | (simp [hg17]; done) | (simp_all; done) | grind), trivial⟩ ⟨⟨show 0 < 3 by decide, _, rfl, .vars ⟨.d _, .d _, .d _, .d _, trivial⟩⟩, ⟨show 1 < 3 by decide, _, rfl, .lst _ _ _⟩, ⟨show 2 < 3 by decide, _, rfl, .vars ⟨.d _, .d _, .d _, .d _, trivial⟩⟩, trivial⟩)
      by_cases hc18 : ((x9.What == 4) && (decide ((l2.length : Int) > 0))) = true
      ·
       replace h := aO hc18 h
       refine aY (t := ((x9.What == 4) && (decide ((l2.length : Int) > 0)))) rfl hc18 ?_
       obtain ⟨x19, hx19, h⟩ := ay h
       obtain ⟨l20, hl20, h⟩ := ay h
       have hh := aq h
       subst hh
       refine bU ⟨tab [(2, .ptr 0 0 0), (4, .loc 1 0 l20.length), (14, cN a0), (15, vi (a0.length : Int)), (16, vi i3)], ac [(0, bz), (1, .lst true (some 4) (List.map aN l20))], 2⟩ ?_ ?_
       ·
        iterate 6 refine q1 _ ?_
        refine step (v := .ptr 1 (IntKind.i64.wrap ((l2.length : Int) - 1)).toNat 0) (iX (xs := l2) (e := aN) hx19 rfl rfl rfl rfl) ?_
        refine step (v := vs1 x19) (qy (xs := l2) (e := aN) hx19 rfl rfl (dX _) rfl) ?_
        refine step (v := ax ([x19] : List ai)) (im rfl (by simp [eL, dX])) ?_
        refine step (v := vs1 (ai.mk 4 0 0 ([x19] : List ai))) (de (ds := [.int .i64 4, .int .i64 0, .int .u16 0, eL (some 4) aN ([x19] : List ai)]) rfl) ?_
        refine step (v := .ptr 1 (IntKind.i64.wrap ((l2.length : Int) - 1)).toNat 0) (iX (xs := l2) (e := aN) hx19 rfl rfl rfl rfl) ?_
        refine step (v := V.undef) (σ' := (al (ac [(0, bz), (1, .lst true (some 4) (List.map aN l2)), (2, en x9)]) 1 (some (.lst true (some 4) (List.map aN l20))))) (n' := 3) (u5 (e := aN) (v' := (ai.mk 4 0 0 ([x19] : List ai))) hl20 rfl rfl rfl (dX _) rfl rfl) ?_
        exact aZ.nil' (nm [0, 1] ⟨.pt 0, .le (id := 1) (qv hl20).symm (show 1 < 2 by decide), .d _, .d _, .d _, trivial⟩ ⟨⟨show 0 < 2 by decide, _, rfl, .vars ⟨.d _, .d _, .d _, .d _, trivial⟩⟩, ⟨show 1 < 2 by decide, _, rfl, .lst _ _ _⟩, trivial⟩)
       exact And.intro rfl rfl
      ·
       replace h := aP hc18 h
       refine aW (t := ((x9.What == 4) && (decide ((l2.length : Int) > 0)))) rfl hc18 ?_
       refine am ⟨tab [(2, .ptr 0 0 0), (4, .loc 1 0 l2.length), (6, .ptr 2 0 0), (7, vi (l2.length : Int)), (14, cN a0), (15, vi (a0.length : Int)), (16, vi i3), (80, vb ((x9.What == 6) || (x9.What == 7)))], ac [(0, bz), (1, .lst true (some 4) (List.map aN l2)), (2, en x9)], 3⟩ ?_ ?_
       ·
        iterate 4 refine q1 _ ?_
        by_cases hg21 : (x9.What == 6) = true
        ·
         iterate 3 refine qX (x9.What == 6) (by rw [hg21]; decide) ?_
         refine step (v := vb true) (bw (b := (x9.What == 6)) rfl hg21 rfl) ?_
         refine q1 _ ?_
         exact aZ.nil' (nm [0, 1, 2] ⟨.pt 0, .lc 1, .pt 2, .d _, .d _, .d _, .d _, .eq (by first | (simp [hg21]; done) | (simp_all; done) | grind), trivial⟩ ⟨⟨show 0 < 3 by decide, _, rfl, .vars ⟨.d _, .d _, .d _, .d _, trivial⟩⟩, ⟨show 1 < 3 by decide, _, rfl, .lst _ _ _⟩, ⟨show 2 < 3 by decide, _, rfl, .vars ⟨.d _, .d _, .d _, .d _, trivial⟩⟩, trivial⟩)
        ·
         refine qG (x9.What == 6) (Bool.eq_false_iff.2 hg21) ?_
         refine q1 _ ?_
         refine qG (x9.What == 6) (Bool.eq_false_iff.2 hg21) ?_
         refine q1 _ ?_
         refine qG (x9.What == 6) (Bool.eq_false_iff.2 hg21) ?_
         refine q1 _ ?_
         refine step (v := vb (x9.What == 7)) (bp (b := (x9.What == 6)) rfl hg21 rfl) ?_
         refine q1 _ ?_
         exact aZ.nil' (nm [0, 1, 2] ⟨.pt 0, .lc 1, .pt 2, .d _, .d _, .d _, .d _, .eq (by first | (simp [hg21]; done) | (simp_all; done) | grind), trivial⟩ ⟨⟨show 0 < 3 by decide, _, rfl, .vars ⟨.d _, .d _, .d _, .d _, trivial⟩⟩, ⟨show 1 < 3 by decide, _, rfl, .lst _ _ _⟩, ⟨show 2 < 3 by decide, _, rfl, .vars ⟨.d _, .d _, .d _, .d _, trivial⟩⟩, trivial⟩)
       by_cases hc22 : ((x9.What == 6) || (x9.What == 7)) = true
       ·
        replace h := aO hc22 h
        refine aY (t := ((x9.What == 6) || (x9.What == 7))) rfl hc22 ?_
        refine am ⟨tab [(2, .ptr 0 0 0), (4, .loc 1 0 l2.length), (6, .ptr 2 0 0), (7, vi (l2.length : Int)), (8, vi (fK (IntKind.i64.wrap x9.K) (l2.length : Int))), (14, cN a0), (15, vi (a0.length : Int)), (16, vi i3)], ac [(0, bz), (1, .lst true (some 4) (List.map aN l2)), (2, en x9)], 3⟩ ?_ ?_
        ·
         iterate 6 refine q1 _ ?_
         exact nR [0, 1, 2]
        obtain ⟨l23, hl23, h⟩ := ay h
        obtain ⟨l24, hl24, h⟩ := ay h
        refine am ⟨tab [(2, .ptr 0 0 0), (4, .loc 1 0 l2.length), (6, .ptr 2 0 0), (7, vi (l2.length : Int)), (8, vi (fK (IntKind.i64.wrap x9.K) (l2.length : Int))), (9, .loc 3 0 l24.length), (14, cN a0), (15, vi (a0.length : Int)), (16, vi i3)], ac [(0, bz), (1, .lst true (some 4) (List.map aN l2)), (2, en x9), (3, .lst false (some 4) (List.map aN l24))], 4⟩ ?_ ?_
        ·
         refine step (v := .loc 3 0 (([] : List ai).length)) (σ' := (al (ac [(0, bz), (1, .lst true (some 4) (List.map aN l2)), (2, en x9)]) 3 (some (.lst false (some 4) (List.map aN ([] : List ai)))))) (n' := 4) rfl ?_
         iterate 4 refine q1 _ ?_
         refine step (v := .loc 1 (IntKind.i64.wrap ((l2.length : Int) - (fK (IntKind.i64.wrap x9.K) (l2.length : Int)))).toNat ((l2.length : Int).toNat - (IntKind.i64.wrap ((l2.length : Int) - (fK (IntKind.i64.wrap x9.K) (l2.length : Int)))).toNat)) (kP (xs := l2) (e := aN) hl23 rfl rfl rfl ⟨_, rfl⟩ rfl) ?_
         refine step (v := .loc 4 0 l24.length) (σ' := (al (al (al (ac [(0, bz), (1, .lst true (some 4) (List.map aN l2)), (2, en x9)]) 3 (some (.lst false (some 4) (List.map aN ([] : List ai))))) 3 none) 4 (some (.lst false (some 4) (List.map aN l24))))) (n' := 5) (eP (xs := ([] : List ai)) (ys := l23) (e := aN) hl24 rfl rfl rfl (vc (xs := l2) (e := aN) hl23 rfl rfl)) ?_
         refine q1 _ ?_
         exact nR [0, 1, 2, 4]
        obtain ⟨l25, hl25, h⟩ := ay h
        obtain ⟨l26, hl26, h⟩ := ay h
        have hh := aq h
        subst hh
        refine lY ⟨tab [(2, .ptr 0 0 0), (4, .loc 1 0 l26.length), (14, cN a0), (15, vi (a0.length : Int)), (16, vi i3)], ac [(0, bz), (1, .lst true (some 4) (List.map aN l26))], 2⟩ ?_ ?_
        ·
         refine b9 [] [] (v := .loc 1 0 l2.length) rfl rfl rfl ?_
         refine b9 [] [] (v := vi (l2.length : Int)) rfl rfl rfl ?_
         refine b9 [] [] (v := vi (fK (IntKind.i64.wrap x9.K) (l2.length : Int))) rfl rfl rfl ?_
         refine b9 [] [] (v := vi (IntKind.i64.wrap ((l2.length : Int) - (fK (IntKind.i64.wrap x9.K) (l2.length : Int))))) rfl rfl rfl ?_
         refine b9 [1] [] (v := .loc 1 (0 : Int).toNat ((IntKind.i64.wrap ((l2.length : Int) - (fK (IntKind.i64.wrap x9.K) (l2.length : Int)))).toNat - (0 : Int).toNat)) (kP (xs := l2) (e := aN) hl25 rfl rfl rfl rfl ⟨_, rfl⟩) rfl rfl ?_
         refine b9 [] [] (v := .ptr 2 0 0) rfl rfl rfl ?_
         refine b9 [2] [] (v := vi x9.What) rfl rfl rfl ?_
         refine b9 [] [] (v := .loc 3 0 l24.length) rfl rfl rfl ?_
         refine b9 [] [] (v := .agg [vi x9.What, vi 0, vh 0, .loc 3 0 l24.length]) rfl rfl rfl ?_
         refine b9 [3] [] (v := .loc 4 0 (([(ai.mk x9.What 0 0 l24)] : List ai).length)) (σ' := (al (ac [(0, bz), (1, .lst true (some 4) (List.map aN l2)), (2, en x9), (3, .lst false (some 4) (List.map aN l24))]) 4 (some (.lst false (some 4) (List.map aN ([(ai.mk x9.What 0 0 l24)] : List ai)))))) (n' := 5) (vm (ds := List.map aN ([(ai.mk x9.What 0 0 l24)] : List ai)) (dU (f := fun x => cV _ (aA _ x)) (nb (dU fg (dU fg (dU fg (dU (xe (xs := l24) rfl rfl) kR))))) kR) rfl) rfl rfl ?_
         refine b9 [1, 4] [1] (v := .loc 5 0 l26.length) (σ' := (al (al (al (ac [(0, bz), (1, .lst true (some 4) (List.map aN l2)), (2, en x9), (3, .lst false (some 4) (List.map aN l24))]) 4 (some (.lst false (some 4) (List.map aN ([(ai.mk x9.What 0 0 l24)] : List ai))))) 1 none) 5 (some (.lst true (some 4) (List.map aN l26))))) (n' := 6) (va (xs := l2) (ys := ([(ai.mk x9.What 0 0 l24)] : List ai)) (e := aN) hl25 hl26 rfl rfl (fun σ2 hq => (u6 (xs := ([(ai.mk x9.What 0 0 l24)] : List ai)) (e := aN) rfl ((hq 4 (by decide)).trans rfl) rfl))) rfl rfl ?_
         refine b9 [] [] (v := .loc 5 0 l26.length) rfl rfl rfl ?_
         exact cg.nil' ⟨by decide, nr [0, 5]⟩
        exact And.intro rfl rfl
       ·
        replace h := aP hc22 h
        refine aW (t := ((x9.What == 6) || (x9.What == 7))) rfl hc22 ?_
        have hh := aq h
        subst hh
        refine bb (s0 := ⟨tab [(2, .ptr 0 0 0), (4, .loc 1 0 l2.length), (14, cN a0), (15, vi (a0.length : Int)), (16, vi i3)], ac [(0, bz), (1, .lst true (some 4) (List.map aN l2))], 2⟩) (nr [0, 1]) ?_
        refine bh ?_
        exact And.intro rfl rfl
   have hh := aq h
   subst hh
   refine bU ⟨tab [(2, .ptr 0 0 0), (4, .loc 1 0 l27.length), (14, cN a0), (15, vi (a0.length : Int)), (16, vi (i3 + 1))], ac [(0, bz), (1, .lst true (some 4) (List.map aN l27))], 2⟩ ?_ ?_
   ·
    refine step (v := vi (i3 + 1)) (cL (cM hinv6 hgo5 hB4) rfl rfl) ?_
    refine q1 _ ?_
    exact nR [0, 1]
   exact And.intro rfl rfl
  ·
   rintro i3 l2 hinv6 hgo5
   show aI _ _ _ _ _ ⟨tab [(2, .ptr 0 0 0), (4, .loc 1 0 l2.length), (14, cN a0), (15, vi (a0.length : Int)), (16, vi i3)], ac [(0, bz), (1, .lst true (some 4) (List.map aN l2))], 2⟩
   have hc7 : ¬ (decide (i3 < (a0.length : Int)) = true) := fun hq => hgo5 (of_decide_eq_true hq)
   refine am ⟨tab [(2, .ptr 0 0 0), (4, .loc 1 0 l2.length), (14, cN a0), (15, vi (a0.length : Int)), (16, vi i3), (17, vb (decide (i3 < (a0.length : Int))))], ac [(0, bz), (1, .lst true (some 4) (List.map aN l2))], 2⟩ ?_ ?_
   ·
    refine q1 _ ?_
    exact nR [0, 1]
   refine aG ?_
   refine aW (t := decide (i3 < (a0.length : Int))) rfl hc7 ?_
   refine bb (s0 := ⟨tab [(2, .ptr 0 0 0), (4, .loc 1 0 l2.length)], ac [(0, bz), (1, .lst true (some 4) (List.map aN l2))], 2⟩) (nr [0, 1]) ?_
   refine cI ?_
   exact And.intro rfl rfl
  refine aG ?_
  refine am ⟨tab [(2, .ptr 0 0 0), (4, .loc 1 0 z29.length), (115, vb ((z29.length : Int) == 0))], ac [(0, bz), (1, .lst true (some 4) (List.map aN z29))], 2⟩ ?_ ?_
  ·
   iterate 3 refine q1 _ ?_
   exact nR [0, 1]
  by_cases hc30 : ((z29.length : Int) == 0) = true
  ·
   replace h := aO hc30 h
   refine aY (t := ((z29.length : Int) == 0)) rfl hc30 ?_
   refine am ⟨tab [(2, .ptr 0 0 0), (3, vb false)], ac [(0, bz)], 1⟩ ?_ ?_
   ·
    refine step (v := vs1 (ai.mk 0 0 0 [])) (de (ds := [.int .i64 0, .int .i64 0, .int .u16 0, eL (some 4) aN []]) rfl) ?_
    refine step (v := V.undef) (σ' := (al (ac [(0, bz), (1, .lst true (some 4) (List.map aN z29))]) 0 (some (bz)))) (n' := 2) rfl ?_
    refine q1 _ ?_
    exact nR [0]
   have hh := aq h
   subst hh
   refine aV ?_
   show FQ _ _ _ _
   exact eE (.inr rfl) (ff (ds := [.int .i64 0, .int .i64 0, .int .u16 0, eL (some 4) aN []]) rfl rfl (show 4 ≤ 4 by decide) rfl (bg (v := vb false) rfl rfl)) (RV.d (RV.d trivial))
  ·
   replace h := aP hc30 h
   refine aW (t := ((z29.length : Int) == 0)) rfl hc30 ?_
   refine bh ?_
   obtain ⟨x31, hx31, h⟩ := ay h
   refine am ⟨tab [(2, .ptr 0 0 0), (3, vb true)], ac [(0, cK x31)], 1⟩ ?_ ?_
   ·
    iterate 4 refine q1 _ ?_
    refine step (v := .ptr 1 (IntKind.i64.wrap ((z29.length : Int) - 1)).toNat 0) (iX (xs := z29) (e := aN) hx31 rfl rfl rfl rfl) ?_
    refine step (v := vs1 x31) (qy (xs := z29) (e := aN) hx31 rfl rfl (dX _) rfl) ?_
    refine step (v := V.undef) (σ' := (al (ac [(0, bz), (1, .lst true (some 4) (List.map aN z29))]) 0 (some (cK x31)))) (n' := 2) rfl ?_
    refine q1 _ ?_
    exact nR [0]
   have hh := aq h
   subst hh
   refine aV ?_
   show FQ _ _ _ _
   exact eE (.inr rfl) (ff (ds := [.int .i64 x31.Op, .int .i64 x31.F, .int .u16 x31.N, eL (some 4) aN x31.Kids]) rfl rfl (show 4 ≤ 4 by decide) rfl (bg (v := vb true) rfl rfl)) (RV.d (RV.d trivial))
end Go.AM
